/- DiskShapes, part 11: what functions compute, and its plain law; no condition. -/
import Derived.Test.YtgkdpbambfgahaaGreatDoorWaj
set_option linter.all false
set_option maxRecDepth 100000
set_option maxHeartbeats 64000000
namespace Go.Av
open Go.Proofs Go.Proofs.Tryz
def fX{α:Type}(p:α->Bool):List α->Int
 |[]=>-1
 |a::l=>if p a=true then 0 else if fX p l<0 then-1 else fX p l+1
theorem rj{α:Type}(p:α->Bool)(l:List α):decide (0<=fX p l)=l.any p:=by
 induction l with
 |nil=>rfl
 |cons a l ih=>
  simp only[fX,List.any_cons,<-ih];by_cases hp:p a=true
  ·simp[hp]
  ·by_cases h:fX p l<0
   ·have h2:¬0<=fX p l:=by omega
    simp[hp,h,h2]
   ·have h2:0<=fX p l:=by omega
    have h3:0<=fX p l+1:=by omega
    simp[hp,h,h2,h3]
theorem oz{α:Type}(p:α->Bool)(l:List α)(i:Nat)(h:∀x∈l.take i,p x=false)(hi:i<=l.length):fX p l=if fX p (l.drop i)<0 then-1 else fX p (l.drop i)+i:=by
 induction l generalizing i with
 |nil=>simp[fX]
 |cons a l ih=>
  cases i with
  |zero=>
   have:-1<=fX p (a::l):=by
    clear ih h hi;generalize a::l=m
    induction m with
    |nil=>simp[fX]
    |cons a m ih=>simp only[fX];split<;>(try split)<;>omega
   simp only[List.drop_zero];split<;>omega
  |succ i=>
   have h0:p a=false:=h a (by simp);have:=ih i (fun x hx=>h x (by simp[hx])) (by simp at hi;omega);simp only[List.drop_succ_cons,fX,h0,Bool.false_eq_true,if_false];rw[this];split
   ·simp
   ·rw[if_neg (by omega)];omega
abbrev mG(x:UInt8):PC:= .sc (.int .u8 x.toNat)
abbrev cy(b:List UInt8):PC:= .sl (af b)
abbrev eS(w:Int×List UInt8):PC:= .agg false [.int w.1,cy w.2]
abbrev Fd:=List UInt8×List UInt8
abbrev nX(f:Fd):PC:= .agg false [.str f.1,.str f.2]
theorem Xu(g:FuncId)(caps:List PC)(p:List UInt8->Bool)(l:List (List UInt8))(hl:l.length<=1000000000000)(hg:∀x∈l,aq prog g (cy x::caps) (.bool (p x))):aq prog 197 [.sl (l.map cy),.fn (.func g) caps] (.int (fX p l)):=by
 refine ai (ys:=[_]) [] [] [] func197 rfl ?_;obtain⟨R,hR⟩:∃R,R=fX p l:=⟨_,rfl⟩;rw[<-hR];simp;refine bg (fun i:Nat=>i<=l.length/\∀x∈l.take i,p x=false) (fun i=>[(0,.p (.sl (l.map cy))),(1,.p (.fn (.func g) caps)),(7,.p (.int l.length)),(8,.p (.int i))]) (fun i=>l.length-i) 0 ⟨by simp,by simp⟩ (ak (by simp)) ?_;rintro i ⟨g1,g2⟩;have hf:=oz p l i g2 g1;rw[<-hR]at hf;by_cases ci:i<l.length
 ·have wi:=jq i;rw[List.drop_eq_getElem_cons ci]at hf;simp only[fX]at hf;simp[ci];refine bS (hg l[i] (List.getElem_mem ci)) ?_;cases hp:p l[i]with
  |true=>
   simp[hp]at hf;simp[hf,results197]
  |false=>
   simp[wi];refine⟨i+1,⟨by omega,fun x hx=>?_⟩,by omega,ak (by simp)⟩;rw[iA ci,iR]at hx;rcases hx with hx|hx
   ·exact g2 _ hx
   ·simp at hx;rw[hx];exact hp
 ·rw[List.drop_eq_nil_of_le (by omega)]at hf;simp[fX]at hf;simp[ci,hf,results197]
theorem Xv(g:FuncId)(caps:List PC)(p:List UInt8->Bool)(l:List (List UInt8))(hl:l.length<=1000000000000)(hg:∀x∈l,aq prog g (cy x::caps) (.bool (p x))):aq prog 105 [.sl (l.map cy),.fn (.func g) caps] (.bool (l.any p)):=by
 refine ai (ys:=[_]) [] [] [] func105 rfl ?_;simp;refine bS (Xu g caps p l hl hg) ?_;rw[<-rj];simp[results105]
theorem Xw(g:FuncId)(caps:List PC)(p:Int×List UInt8->Bool)(l:List (Int×List UInt8))(hl:l.length<=1000000000000)(hg:∀x∈l,aq prog g (eS x::caps) (.bool (p x))):aq prog 332 [.sl (l.map eS),.fn (.func g) caps] (.int (fX p l)):=by
 refine ai (ys:=[_]) [] [] [] func332 rfl ?_;obtain⟨R,hR⟩:∃R,R=fX p l:=⟨_,rfl⟩;rw[<-hR];simp;refine bg (fun i:Nat=>i<=l.length/\∀x∈l.take i,p x=false) (fun i=>[(0,.p (.sl (l.map eS))),(1,.p (.fn (.func g) caps)),(7,.p (.int l.length)),(8,.p (.int i))]) (fun i=>l.length-i) 0 ⟨by simp,by simp⟩ (ak (by simp)) ?_;rintro i ⟨g1,g2⟩;have hf:=oz p l i g2 g1;rw[<-hR]at hf;by_cases ci:i<l.length
 ·have wi:=jq i;rw[List.drop_eq_getElem_cons ci]at hf;simp only[fX]at hf;simp[ci];refine bS (hg l[i] (List.getElem_mem ci)) ?_;cases hp:p l[i]with
  |true=>
   simp[hp]at hf;simp[hf,results332]
  |false=>
   simp[wi];refine⟨i+1,⟨by omega,fun a b hx=>?_⟩,by omega,ak (by simp)⟩;rw[iA ci,iR]at hx;rcases hx with hx|hx
   ·exact g2 _ hx
   ·simp at hx;rw[hx];exact hp
 ·rw[List.drop_eq_nil_of_le (by omega)]at hf;simp[fX]at hf;simp[ci,hf,results332]
theorem Nj(g:FuncId)(caps:List PC)(p:Int×List UInt8->Bool)(l:List (Int×List UInt8))(hl:l.length<=1000000000000)(hg:∀x∈l,aq prog g (eS x::caps) (.bool (p x))):aq prog 257 [.sl (l.map eS),.fn (.func g) caps] (.bool (l.any p)):=by
 refine ai (ys:=[_]) [] [] [] func257 rfl ?_;simp;refine bS (Xw g caps p l hl hg) ?_;rw[<-rj];simp[results257]
theorem Xx(g:FuncId)(caps:List PC)(p:UInt8->Bool)(l:List (UInt8))(hl:l.length<=1000000000000)(hg:∀x∈l,aq prog g (mG x::caps) (.bool (p x))):aq prog 440 [.sl (l.map mG),.fn (.func g) caps] (.int (fX p l)):=by
 refine ai (ys:=[_]) [] [] [] func440 rfl ?_;obtain⟨R,hR⟩:∃R,R=fX p l:=⟨_,rfl⟩;rw[<-hR];simp;refine bg (fun i:Nat=>i<=l.length/\∀x∈l.take i,p x=false) (fun i=>[(0,.p (.sl (l.map mG))),(1,.p (.fn (.func g) caps)),(7,.p (.int l.length)),(8,.p (.int i))]) (fun i=>l.length-i) 0 ⟨by simp,by simp⟩ (ak (by simp)) ?_;rintro i ⟨g1,g2⟩;have hf:=oz p l i g2 g1;rw[<-hR]at hf;by_cases ci:i<l.length
 ·have wi:=jq i;rw[List.drop_eq_getElem_cons ci]at hf;simp only[fX]at hf;simp[ci];refine bS (hg l[i] (List.getElem_mem ci)) ?_;cases hp:p l[i]with
  |true=>
   simp[hp]at hf;simp[hf,results440]
  |false=>
   simp[wi];refine⟨i+1,⟨by omega,fun x hx=>?_⟩,by omega,ak (by simp)⟩;rw[iA ci,iR]at hx;rcases hx with hx|hx
   ·exact g2 _ hx
   ·simp at hx;rw[hx];exact hp
 ·rw[List.drop_eq_nil_of_le (by omega)]at hf;simp[fX]at hf;simp[ci,hf,results440]
theorem Xy(g:FuncId)(caps:List PC)(p:UInt8->Bool)(l:List (UInt8))(hl:l.length<=1000000000000)(hg:∀x∈l,aq prog g (mG x::caps) (.bool (p x))):aq prog 438 [.sl (l.map mG),.fn (.func g) caps] (.bool (l.any p)):=by
 refine ai (ys:=[_]) [] [] [] func438 rfl ?_;simp;refine bS (Xx g caps p l hl hg) ?_;rw[<-rj];simp[results438]
theorem Xz(g:FuncId)(caps:List PC)(p:Fd->Bool)(l:List (Fd))(hl:l.length<=1000000000000)(hg:∀x∈l,aq prog g (nX x::caps) (.bool (p x))):aq prog 351 [.sl (l.map nX),.fn (.func g) caps] (.int (fX p l)):=by
 refine ai (ys:=[_]) [] [] [] func351 rfl ?_;obtain⟨R,hR⟩:∃R,R=fX p l:=⟨_,rfl⟩;rw[<-hR];simp;refine bg (fun i:Nat=>i<=l.length/\∀x∈l.take i,p x=false) (fun i=>[(0,.p (.sl (l.map nX))),(1,.p (.fn (.func g) caps)),(7,.p (.int l.length)),(8,.p (.int i))]) (fun i=>l.length-i) 0 ⟨by simp,by simp⟩ (ak (by simp)) ?_;rintro i ⟨g1,g2⟩;have hf:=oz p l i g2 g1;rw[<-hR]at hf;by_cases ci:i<l.length
 ·have wi:=jq i;rw[List.drop_eq_getElem_cons ci]at hf;simp only[fX]at hf;simp[ci];refine bS (hg l[i] (List.getElem_mem ci)) ?_;cases hp:p l[i]with
  |true=>
   simp[hp]at hf;simp[hf,results351]
  |false=>
   simp[wi];refine⟨i+1,⟨by omega,fun a b hx=>?_⟩,by omega,ak (by simp)⟩;rw[iA ci,iR]at hx;rcases hx with hx|hx
   ·exact g2 _ hx
   ·simp at hx;rw[hx];exact hp
 ·rw[List.drop_eq_nil_of_le (by omega)]at hf;simp[fX]at hf;simp[ci,hf,results351]
theorem Wt(g:FuncId)(caps:List PC)(p:Fd->Bool)(l:List (Fd))(hl:l.length<=1000000000000)(hg:∀x∈l,aq prog g (nX x::caps) (.bool (p x))):aq prog 296 [.sl (l.map nX),.fn (.func g) caps] (.bool (l.any p)):=by
 refine ai (ys:=[_]) [] [] [] func296 rfl ?_;simp;refine bS (Xz g caps p l hl hg) ?_;rw[<-rj];simp[results296]
theorem XA(v:Int)(l:List (Int))(hl:l.length<=1000000000000):aq prog 278 [.sl (l.map PC.int),PC.int v] (.int (fX (fun x=>v==x) l)):=by
 refine ai (ys:=[_]) [] [] [] func278 rfl ?_;obtain⟨R,hR⟩:∃R,R=fX (fun x=>v==x) l:=⟨_,rfl⟩;rw[<-hR];simp;refine bg (fun i:Nat=>i<=l.length/\∀x∈l.take i,¬v=x) (fun i=>[(0,.p (.sl (l.map PC.int))),(1,.p (PC.int v)),(7,.p (.int l.length)),(8,.p (.int i))]) (fun i=>l.length-i) 0 ⟨by simp,by simp⟩ (ak (by simp)) ?_;rintro i ⟨g1,g2⟩;have hf:=oz (fun x=>v==x) l i (fun x hx=>by simpa using g2 x hx) g1;rw[<-hR]at hf;by_cases ci:i<l.length
 ·have wi:=jq i;rw[List.drop_eq_getElem_cons ci]at hf;simp only[fX]at hf;simp[ci];by_cases hp:v=l[i]
  ·have hp':(v==l[i])=true:=by simpa using hp
   simp[hp']at hf;simp[hp',hf,results278]
  ·have hp':(v==l[i])=false:=by simpa using hp
   simp[hp',wi];refine⟨i+1,⟨by omega,fun x hx=>?_⟩,by omega,ak (by simp)⟩;rw[iA ci,iR]at hx;rcases hx with hx|hx
   ·exact g2 _ hx
   ·simp only[List.mem_singleton]at hx;rw[hx];exact hp
 ·rw[List.drop_eq_nil_of_le (by omega)]at hf;simp[fX]at hf;simp[ci,hf,results278]
theorem Oj(v:Int)(l:List (Int))(hl:l.length<=1000000000000):aq prog 196 [.sl (l.map PC.int),PC.int v] (.bool (l.any fun x=>v==x)):=by
 refine ai (ys:=[_]) [] [] [] func196 rfl ?_;simp;refine bS (XA v l hl) ?_;rw[<-rj];simp[results196]
end Go.Av
namespace Go.aT
open Go.Av
abbrev dh:=List UInt8
structure aN where
 n:Int
 bad:List Int
 left:Int
 kept:List dh
 now:List dh
 q:List (Nat×dh)
def aN.next(D:aN):aN×Int:=if D.left=0 then(D,32)else({D with left:=if D.left<0 then-1 else D.left-1,n:=IntKind.i64.wrap (D.n+1)},if D.bad.contains D.n then 31 else 0)
def aN.there(D:aN)(a n:Int):Bool:=decide (0<=a)&&decide (a<=D.kept.length)&&decide (0<=n)&&decide (n<=D.kept.length-a)
def aN.lay(D:aN)(a:Nat):List dh->aN
 |[]=>D
 |b::l=>({D with q:=D.q++[(a,b)],now:=D.now.set a b}:aN).lay (a+1) l
def aN.write(D:aN)(a:Int)(l:List dh):aN×Int:=if D.there a l.length=true/\l.all (fun b=>b.length==64)=true then
 (if D.next.2=0 then(D.next.1.lay a.toNat l,0)else D.next)else(D,2)
def aN.read(D:aN)(a n:Int):aN×List dh×Int:=if D.there a n=true then
 (if D.next.2=0 then(D.next.1,(D.now.drop a.toNat).take n.toNat,0)else(D.next.1,[],D.next.2))else(D,[],2)
def dz(now:List dh):List (Nat×dh)->List dh->List dh
 |[],k=>k
 |w::q,k=>dz now q (k.set w.1 (now.getD w.1 []))
def aN.settle(D:aN):aN:={D with kept:=dz D.now D.q D.kept,q:=[]}
def aN.flush(D:aN):aN×Int:=if D.next.2=0 then(D.next.1.settle,0)else D.next
structure dO(b:Nat)(D:aN):Prop where
 len:D.now.length=D.kept.length
 pos:1<=D.kept.length
 top:D.kept.length<=65536
 kept:∀s∈D.kept,s.length=64
 now:∀s∈D.now,s.length=64
 q:D.q.length<=b
 qs:∀w∈D.q,w.1<D.kept.length/\w.2.length=64
 left:-1<=D.left/\D.left<=9223372036854775807
 n:-9223372036854775808<=D.n/\D.n<=9223372036854775807
 bad:D.bad.length<=1000000000
theorem uT(n:Int):-9223372036854775808<=IntKind.i64.wrap n/\IntKind.i64.wrap n<=9223372036854775807:=by
 rw[IntWalk.i64_left];unfold RowKit.wrap64;omega
theorem dO.next{b:Nat}{D:aN}(h:dO b D):dO b D.next.1:=by
 obtain⟨h1,h2,h3,h4,h5,h6,h7,h8,h9,h10⟩:=h;unfold aN.next;split
 ·exact⟨h1,h2,h3,h4,h5,h6,h7,h8,h9,h10⟩
 ·have:=uT (D.n+1);exact⟨h1,h2,h3,h4,h5,h6,h7,by simp only;split<;>omega,this,h10⟩
end Go.aT
namespace Go.Av
open Go.Proofs Go.Proofs.Tryz Go.aT
@[simp]theorem X5{P:Program}{md:Bool}{t:TypeId}{x:Operand}{e:Operand->AV}{tb:Tb}{kt:AV->Tb->Prop}:kP P md (.sliceToArrayPointer t x) e tb kt=h_ P (.sliceToArrayPointer t x) e (qK kt tb):=(rfl)
@[simp]theorem aaj:ic prog 172=some (64,1,false):=by kernel_rfl
@[simp]theorem aak:bG prog 174=some (.sc (.int .i64 0)::List.replicate 64 (.sc (.int .u8 0))):=by kernel_rfl
def Ds:List PC:=List.replicate 64 (.sc (.int .u8 0))
@[simp]theorem ag2:Ds.length=64:=by simp[Ds]
@[simp]theorem ad8:List.drop 64 (List.map AV.p Ds)=[]:=by simp
@[simp]theorem aal:bG prog 172=some Ds:=by kernel_rfl
abbrev Nf(b:dh):PC:= .agg false (af b)
abbrev J4(w:Nat×dh):PC:= .agg false (.int w.1::af w.2)
def aj(L:List dh):Ob:=⟨172,64,(L.flatMap af).map .p⟩
@[reducible]def yN(q:Nat)(D:aN):Ob:=⟨170,6,[.p (.int D.n),.p (.sl (D.bad.map PC.int)),.p (.int D.left),.view 1 0 D.kept.length 64 none,.view 2 0 D.now.length 64 none,.own q (D.q.map J4)]⟩
@[reducible]def cE(q:Nat)(D:aN):List (Nat×Ob):=[(0,yN q D),(1,aj D.kept),(2,aj D.now)]
@[reducible]def cn(q:Nat):List (Nat×TypeId×Nat):=[(q,174,65)]
theorem S6(l:List AV)(k:Nat)(h:AV.fD.eM k l=true):AV.ren.dm (uM []) l=l:=lq (nx:=k) (by simp) l h
theorem CP(el:TypeId)(sz:Nat)(D:aN)(b:Nat)(hD:dO b D)(rest:List AV)(hr:AV.fD.eM (4) rest=true):aE prog 103 [.obj 0 0] ⟨[(0,⟨el,sz,.p (.int D.n):: .p (.sl (D.bad.map PC.int)):: .p (.int D.left)::rest⟩)],[],4⟩ (.p (.int D.next.2)) ⟨[(0,⟨el,sz,.p (.int D.next.1.n):: .p (.sl (D.bad.map PC.int)):: .p (.int D.next.1.left)::rest⟩)],[],4⟩:=by
 have hb:=hD.bad;have hl:=hD.left;have hc:=Oj D.n D.bad (by omega);have e:(D.bad.any fun x=>D.n==x)=D.bad.contains D.n:=by rw[<-List.any_beq]
 rw[e]at hc;have hri:=S6 rest _ hr;refine ah (rs:=[_]) [] [] [] func103 rfl ?_;unfold aN.next;by_cases c:D.left=0
 ·simp[c,results103];exact⟨[],by simp[hr,hri]⟩
 ·have w1:IntKind.i64.wrap (D.left-1)=D.left-1:=aD;have c':(D.left==0)=false:=by simpa using c
  have w2:(if D.left<0 then-1 else D.left-1)=if D.left-1< -1 then-1 else D.left-1:=by split<;>split<;>omega
  simp[c,c',w1,w2];refine bS hc ?_;by_cases cb:D.n∈D.bad
  ·simp[cb,results103];exact⟨[],by simp[hr,hri]⟩
  ·simp[cb,results103];exact⟨[],by simp[hr,hri]⟩
theorem qU{P:Program}{tb:Tb}{kt:AV->Tb->Prop}{gf:FuncId}{ys l:List AV}{ts ts':Tb}{r:AV}(rn:List Nat)(h:aE P gf ys ts r ts')(hk:kt (r.ren (gN rn tb.nx)) (tb.merge (ts.ren (gN rn tb.nx)) (ts'.ren (gN rn tb.nx))))(hs:rn.length=ts.nx/\ts.nx<=ts'.nx/\rn.Nodup/\∀j∈rn,j<tb.nx:=by simp)(hl:toAll l (AV.ren.dm (gN rn tb.nx) ys):=by simp)(hb:ay tb.bx (eI (gN rn tb.nx) ts.bx):=by simp[ay,aj])(hr:ay tb.rw (kC (gN rn tb.nx) ts.rw):=by simp[ay]):nL P gf [] l tb kt:=bq rn h hs hl hb hr hk
theorem DZ(D:aN)(hl:D.kept.length<=65536)(a n:Int)(ha:-9223372036854775808<=a/\a<=9223372036854775807):aE prog 102 [.obj 0 0,.p (.int a),.p (.int n)] ⟨[(0,yN 3 D)],[],4⟩ (.p (.bool (D.there a n))) ⟨[(0,yN 3 D)],[],4⟩:=by
 refine ah (rs:=[_]) [] [] [] func102 rfl ?_;unfold aN.there;by_cases c1:0<=a
 ·by_cases c2:a<=D.kept.length
  ·have w1:IntKind.i64.wrap ((D.kept.length:Int)-a)=D.kept.length-a:=aD;by_cases c3:0<=n
   ·simp[c1,c2,c3,w1,results102];exact⟨[],by simp⟩
   ·simp[c1,c2,c3,results102];exact⟨[],by simp⟩
  ·simp[c1,c2,results102];exact⟨[],by simp⟩
 ·simp[c1,results102];exact⟨[],by simp⟩
theorem Ge(D:aN):aE prog 74 [.obj 0 0] ⟨[(0,yN 3 D)],[],4⟩ (.p (.int D.kept.length)) ⟨[(0,yN 3 D)],[],4⟩:=by
 refine ah (rs:=[_]) [] [] [] func74 rfl ?_;simp[results74];exact⟨[],by simp⟩
theorem Xf(b:List UInt8):aq prog 106 [cy b] (.bool (!(b.length==64))):=by
 refine ai (ys:=[_]) [] [] [] func106 rfl ?_;have e:(!(b.length==64))=((b.length:Int) !=64):=by
  by_cases c:b.length=64
  ·simp[c]
  ·have c1:(b.length==64)=false:=by simpa using c
   have c2:((b.length:Int)==64)=false:=by simp;omega
   simp[c1,bne,c2]
 rw[e];simp[results106]
theorem ai3(D:aN)(a:Nat)(l:List dh)(s:dh):D.lay a (l++[s])={(D.lay a l)with q:=(D.lay a l).q++[(a+l.length,s)],now:=(D.lay a l).now.set (a+l.length) s}:=by
 induction l generalizing D a with
 |nil=>rfl
 |cons x l ih=>
  rw[List.cons_append];unfold aN.lay;rw[ih];simp only[List.length_cons];rw[show a+1+l.length=a+(l.length+1) by omega]
theorem D5(D:aN)(a:Nat)(l:List dh):(D.lay a l).kept=D.kept/\(D.lay a l).n=D.n/\(D.lay a l).bad=D.bad/\(D.lay a l).left=D.left/\(D.lay a l).now.length=D.now.length/\(D.lay a l).q.length=D.q.length+l.length:=by
 induction l generalizing D a with
 |nil=>exact⟨rfl,rfl,rfl,rfl,rfl,rfl⟩
 |cons x l ih=>
  obtain⟨h1,h2,h3,h4,h5,h6⟩:=ih ({D with q:=D.q++[(a,x)],now:=D.now.set a x}:aN) (a+1);unfold aN.lay;refine⟨h1,h2,h3,h4,by rw[h5];simp,by rw[h6];simp;omega⟩
theorem _root_.Go.aT.dO.lay{b:Nat}{D:aN}(h:dO b D)(a:Nat)(l:List dh)(hl:∀s∈l,s.length=64)(ha:a+l.length<=D.kept.length):dO (b+l.length) (D.lay a l):=by
 induction l generalizing D a b with
 |nil=>exact h
 |cons x l ih=>
  have h':dO (b+1) ({D with q:=D.q++[(a,x)],now:=D.now.set a x}:aN):=by
   obtain⟨h1,h2,h3,h4,h5,h6,h7,h8,h9,h10⟩:=h;refine⟨by simpa using h1,h2,h3,h4,fun s hs=>?_,by simp;omega,fun w hw=>?_,h8,h9,h10⟩
   ·rcases List.mem_or_eq_of_mem_set hs with hs|rfl
    ·exact h5 s hs
    ·exact hl _ (by simp)
   ·simp only[iR,List.mem_singleton]at hw;rcases hw with hw|rfl
    ·exact h7 w hw
    ·exact⟨by simp at ha;simp only;omega,hl _ (by simp)⟩
  have:=ih h' (a+1) (fun s hs=>hl s (by simp[hs])) (by simp at ha⊢;omega);unfold aN.lay;rw[List.length_cons,show b+(l.length+1)=b+1+l.length by omega];exact this
theorem D6(b:List UInt8):∀y∈af b,y.plain=true:=fun y hy=>by
 obtain⟨x,_,rfl⟩:=List.mem_map.1 hy;rfl
theorem kV(L:List dh)(h:∀s∈L,s.length=64):(L.flatMap af).length=L.length*64:=by
 induction L with
 |nil=>rfl
 |cons s L ih=>
  rw[List.flatMap_cons,dU,ih (fun s hs=>h s (by simp[hs])),List.length_cons];simp[af,h s (by simp)];omega
theorem D7(L:List dh)(h:∀s∈L,s.length=64)(k:Nat):(L.flatMap af).drop (k*64)=(L.drop k).flatMap af:=by
 induction L generalizing k with
 |nil=>simp
 |cons s L ih=>
  cases k with
  |zero=>simp
  |succ k=>
   have hs:(af s).length=64:=by simp[af,h s (by simp)]
   rw[List.flatMap_cons,List.drop_append,List.drop_of_length_le (by omega),List.nil_append,hs,show(k+1)*64-64=k*64 by omega,ih (fun s hs=>h s (by simp[hs]))];rfl
theorem N8(L:List dh)(h:∀s∈L,s.length=64)(k:Nat):(L.flatMap af).take (k*64)=(L.take k).flatMap af:=by
 induction L generalizing k with
 |nil=>simp
 |cons s L ih=>
  cases k with
  |zero=>simp
  |succ k=>
   have hs:(af s).length=64:=by simp[af,h s (by simp)]
   rw[List.flatMap_cons,List.take_append,fY (by omega),hs,show(k+1)*64-64=k*64 by omega,ih (fun s hs=>h s (by simp[hs]))];rfl
theorem Gn(L:List dh)(h:∀s∈L,s.length=64)(k:Nat)(hk:k<L.length):((L.flatMap af).drop (k*64)).take 64=af L[k]:=by
 have hs:(af L[k]).length=64:=by simp[af,h _ (List.getElem_mem hk)]
 rw[D7 L h,List.drop_eq_getElem_cons hk,List.flatMap_cons,List.take_append,hs,fY (by omega)];simp
theorem Cu(L:List dh)(h:∀s∈L,s.length=64)(k:Nat)(hk:k<L.length)(s:dh):(L.flatMap af).take (k*64)++(af s++(L.flatMap af).drop (k*64+64))=(L.set k s).flatMap af:=by
 rw[show k*64+64=(k+1)*64 by omega,N8 L h,D7 L h,List.set_eq_take_append_cons_drop,if_pos hk];simp
theorem vI(D:aN):D.next.1.kept=D.kept/\D.next.1.now=D.now/\D.next.1.q=D.q/\D.next.1.bad=D.bad:=by
 unfold aN.next;split<;>exact⟨rfl,rfl,rfl,rfl⟩
theorem q_(D:aN)(b:Nat)(hD:dO b D)(a:Int)(ha:-9223372036854775808<=a/\a<=9223372036854775807)(l:List dh)(hl:l.length<=1000000000)(hb:b+l.length<=1000000000000):aE prog 33 [.obj 0 0,.p (.int a),.p (.sl (l.map cy))] ⟨cE 3 D,cn 3,4⟩ (.p (.int (D.write a l).2)) ⟨cE 4 (D.write a l).1,cn 4,5⟩:=by
 have hT:=DZ D hD.top a l.length ha;have hA:=Xv 106 [] (fun b=>!(b.length==64)) l (by omega) (fun x _=>Xf x);have hN:=CP 170 6 D b hD [.view 1 0 D.kept.length 64 none,.view 2 0 D.now.length 64 none,.own 3 (D.q.map J4)] (by simp);have hall:(l.any fun b=>!(b.length==64))=!(l.all fun b=>b.length==64):=by rw[List.not_all_eq_any_not]
 rw[hall]at hA;have y7:=hD.next;obtain⟨n1,n2,n3,n4⟩:=vI D;refine ah (rs:=[_]) [] [(10,[(4,.r 1),(5,.r 2),(7,.f [1,2]),(10,.s 1 [2])]),(11,[(3,.r 1),(5,.r 2),(7,.r 2),(9,.s 3 [])])] [(1,0),(2,5),(3,2)] func33 rfl ?_;by_cases c1:D.there a l.length=true
 ·by_cases c2:(l.all fun b=>b.length==64)=true
  ·have hs:∀s∈l,s.length=64:=by simpa using c2
   by_cases c3:D.next.2=0
   ·have ht:=c1;unfold aN.there at ht;simp only[Bool.and_eq_true,decide_eq_true_eq]at ht;obtain⟨⟨⟨t1,t2⟩,t3⟩,t4⟩:=ht;obtain⟨A,rfl⟩:∃A:Nat,a=A:=⟨a.toNat,by omega⟩;have hw:D.write A l=(D.next.1.lay A l,0):=by unfold aN.write;rw[if_pos ⟨c1,c2⟩,if_pos c3];rfl
    rw[hw];generalize D.next=N at*;obtain⟨E,e⟩:=N;simp only at*;subst c3;have FI:=y7.top;rw[<-n1]at t4;have hA2:A+l.length<=E.kept.length:=by omega
    simp;refine mC hT rfl ?_;simp[c1];refine bS hA ?_;simp[c2];refine mC hN rfl ?_;simp;refine aL (fun k:Nat=>k<=l.length) (fun k=>[(0,.obj 0 0),(1,.p (.int A)),(28,.p (.sl (l.map cy))),(29,.p (.int l.length)),(30,.p (.int k))]) (fun k=>⟨cE 4 (E.lay A (l.take k)),cn 4,5⟩) (fun k=>l.length-k) 0 (by simp) _ (AS.le_refl _ _) ?_ ?_
    ·refine aB [(4,3)] ?_;simp[aN.lay,n1,n2,n3,n4,aj]
    ·intro k hk;obtain⟨k1,k2,k3,k4,k5,k6⟩:=D5 E A (l.take k);have XC:=y7.lay A (l.take k) (fun s h=>hs s (jH h)) (by simp;omega);by_cases ck:k<l.length
     ·have xD:l[k].length=64:=hs _ (List.getElem_mem ck);have w1:IntKind.i64.wrap ((A:Int)+k)=((A+k:Nat):Int):=by rw[aD];rfl
      have w2:=jq k;have bl:(af l[k]).length=64:=by rw[<-xD];simp[af]
      have tk:List.take 64 (af l[k])=af l[k]:=fY (by omega);have pl:=D6 l[k];have tk2:List.take 64 (List.map AV.p (af l[k]))=List.map AV.p (af l[k]):=fY (by simp;omega);simp[ck,w1,w2,bl,tk,tk2];have hq:=XC.q;have Wv:(E.lay A (l.take k)).now.length=E.now.length:=k5;have hlen:=y7.len;have e1:((A:Int)+k).toNat=A+k:=by omega
      have sl:=kV _ XC.now;have Ai:E.lay A (l.take (k+1))={(E.lay A (l.take k))with q:=(E.lay A (l.take k)).q++[(A+k,l[k])],now:=(E.lay A (l.take k)).now.set (A+k) l[k]}:=by
       rw[iA ck,ai3,List.length_take,Nat.min_eq_left (by omega)]
      have gT:=Cu _ XC.now (A+k) (by omega) l[k];have hqs:=XC.qs;refine⟨pl,?_,by simp at hq;omega,by simp at hq;omega,by omega,by omega,by simp[aj,sl];omega,k+1,by omega,by omega,aB [(4,6)] ?_⟩
      ·rintro x a b hm rfl;have:=(hqs _ hm).2;simp[PC.width,af,this]
      ·rw[Ai];generalize E.lay A (l.take k)=G at*;have En:List.take ((A+k)*64) ((G.now.flatMap af).map AV.p)++((af l[k]).map AV.p++List.drop ((A+k)*64+64) ((G.now.flatMap af).map AV.p))=(((G.now.set (A+k) l[k]).flatMap af).map AV.p):=by
        rw[<-gT];simp
       simp[aj,e1,En]
     ·obtain rfl:k=l.length:=by omega
      have afk:l.take l.length=l:=List.take_length;simp[results33,afk];exact⟨[],by simp[aj]⟩
   ·have hw:D.write a l=D.next:=by unfold aN.write;rw[if_pos ⟨c1,c2⟩,if_neg c3]
    rw[hw];generalize D.next=N at*;obtain⟨E,e⟩:=N;simp only at*;have j_:(e !=0)=true:=by simpa using c3
    simp;refine mC hT rfl ?_;simp[c1];refine bS hA ?_;simp[c2];refine mC hN rfl ?_;simp[j_,results33];exact⟨[(4,3)],by simp[aj,n1,n2,n3,n4]⟩
  ·have dM:(l.all fun b=>b.length==64)=false:=by simpa using c2
   have hw:D.write a l=(D,2):=by unfold aN.write;rw[if_neg (fun h=>c2 h.2)]
   rw[hw];simp;refine mC hT rfl ?_;simp[c1];refine bS hA ?_;simp[dM,results33];exact⟨[(4,3)],by simp[aj]⟩
 ·have iP:D.there a l.length=false:=by simpa using c1
  have hw:D.write a l=(D,2):=by unfold aN.write;rw[if_neg (fun h=>c1 h.1)]
  rw[hw];simp;refine mC hT rfl ?_;simp[iP,results33];exact⟨[(4,3)],by simp[aj]⟩
end Go.Av
namespace Go.Av
open Go.RowKit
section
variable{P:Program}{f:FuncId}{xs:List AV}{tb aM rK:Tb}{r:AV}
theorem OP{id j:Nat}(el sz:Nat){ob:Ob}(ys:List PC)(hl:lk id tb.bx=some ob)(h:ob.xs[j]?=some (.full ys)\/ys=[]/\ob.xs[j]?=some (.p .nil)):RLe r tb r ((tb.bU el sz).aP id {ob with xs:=ob.xs.set j (.own tb.nx ys)}):=by
 intro w0 M0 F g w v h1 hv;obtain⟨b,c,f1,fr,f0⟩:=h1.boxes id ob hl;have y8:ob.xs≠[]:=fun hz=>by rw[hz]at h;rcases h with h|⟨_,h⟩<;>simp at h
 have g_:0<c:=Nat.pos_of_ne_zero fun hz=>y8 (f0 hz);obtain⟨cur,f2,f3,⟨tt,fz,f4,fo⟩,f5,f6,f7,f8,f9⟩:=fr g_;have ht:∃u ad n,(cur.toList.take ob.xs.length)[j]?=some u/\u= .slice ad n n/\gO g.M (.slice ad n n) (.sl ys):=by
  rcases h with h|⟨rfl,h⟩
  ·obtain⟨u,hu,hr⟩:=f8.get h;cases hr with|full hr=>exact⟨_,_,_,hu,rfl,hr⟩
  ·obtain⟨u,hu,hr⟩:=f8.get h;have:=aZ hr;cases this;exact⟨_,none,0,hu,rfl,.cX⟩
 obtain⟨u,ad,n,hu,rfl,hr⟩:=ht;have hle:=h1.xS (.slice ad n n);have gQ:=h1.sj el sz ad n;have hl':lk id (tb.bU el sz).bx=some ob:=hl;have uw:∀{vs:List Value} {zs:List AV} (j:Nat) (v:Value),vs[j]?=some v->aJ (g.cY tb.nx (.slice ad n n)) vs zs->aX (g.cY tb.nx (.slice ad n n)) v (.own tb.nx ys)->aJ (g.cY tb.nx (.slice ad n n)) vs (zs.set j (.own tb.nx ys)):=by
  intro vs zs
  induction zs generalizing vs with
  |nil=>intro j v _ hs _;simpa using hs
  |cons y zs ih=>
   intro j v hv hs hn;cases hs with
   |cons h hs=>
    cases j with
    |zero=>simp at hv;subst hv;exact .cons hn hs
    |succ j=>simp at hv;exact .cons h (ih j v hv hs hn)
 have key:=gQ.aP (o':={ob with xs:=ob.xs.set j (.own tb.nx ys)}) (cur':=cur) hl' (show(g.cY tb.nx (.slice ad n n)).ob id=some (b,c)from f1) g_ f4 rfl rfl rfl (by simpa using f7) (by
  simp only[List.length_set];exact uw j _ hu (f8.mono hle) (.own (by simp[G.cY]) (hr.mono hle.M))) (by simpa using f9)
 have hw:w.setRow b cur=w:=setRow_self f4;rw[hw]at key;exact⟨_,hle,key,hv.mono hle⟩
theorem tj{id j:Nat}(el sz:Nat){ob:Ob}(ys:List PC)(h:aE P f xs tb r aM)(hl:lk id aM.bx=some ob)(hj:ob.xs[j]?=some (.full ys)\/ys=[]/\ob.xs[j]?=some (.p .nil)):aE P f xs tb r ((aM.bU el sz).aP id {ob with xs:=ob.xs.set j (.own aM.nx ys)}):=qa h (OP el sz ys hl hj)
theorem ye{P:Program}{f:FuncId}{xs:List AV}{tb aM:Tb}{r:AV}(h:aE P f xs tb r aM)(rK:Tb)(hb:ay aM.bx rK.bx)(hr:ay aM.rw rK.rw)(hd:(rK.bx.map Prod.fst).Nodup/\(rK.rw.map Prod.fst).Nodup)(hn:aM.nx<=rK.nx):aE P f xs tb r rK:=by
 have key:∀{α:Type} (l m:List (Nat×α)),ay m l->(l.map Prod.fst).Nodup->∀i o,lk i l=some o->lk i m=some o:=by
  intro α l m
  induction l with
  |nil=>intro _ _ i o h;simp[lk]at h
  |cons p l ih=>
   obtain⟨k,v⟩:=p;intro hs hd i o h;simp only[ay]at hs;simp only[lk]at h;split at h
   ·rename_i e;subst e;injection h with h;subst h;exact hs.1
   ·exact ih hs.2 (List.nodup_cons.1 hd).2 i o h
 exact qa h fun w0 M0 F g w v hw hv=>⟨g,G.le_refl g,hw.sub (key _ _ hb hd.1) (key _ _ hr hd.2) hn,hv⟩
end
end Go.Av
namespace Go.Av
open Go.Proofs Go.Proofs.Tryz Go.aT
theorem Uc:dP prog 104:=⟨Tryz.f104,func104,by kernel_rfl,by kernel_rfl⟩
theorem AW(nx:Nat)(xs:List PC)(hw:∀x∈xs,x.width=1)(ht:∀x∈xs,cw x=true)(hb:xs.length<=1000000000000):aE prog 104 [.p (.sl xs)] ⟨[],[],nx⟩ (.view nx 0 xs.length 1 none) ⟨[(nx,⟨5,1,(xs.flatMap ga).map .p⟩)],[],nx+1⟩:=by
 refine qR (pre:=[]) (post:=[]) Uc ?_ ?_
 ·rintro rfl;refine fG (r:= .p .nil) (aM:=⟨[],[],nx⟩) (el:=5) (s:=1) ?_ trivial;refine ah (rs:=[.p .nil]) [7] [] [] func104 rfl ?_;simp[results104];exact⟨[],by simp⟩
 ·refine ah (rs:=[_]) [7] [] [] func104 rfl ?_;simp[results104];refine⟨hw,ht,by omega,by omega,[],?_⟩;simp
theorem cF(l:List UInt8):∀x∈af l,x.width=1:=fun x h=>by obtain⟨c,_,rfl⟩:=List.mem_map.1 h;rfl
theorem gW(l:List UInt8):∀x∈af l,cw x=true:=fun x h=>by obtain⟨c,_,rfl⟩:=List.mem_map.1 h;rfl
theorem qW(l:List UInt8):(af l).flatMap aU=((af l).flatMap ga).map AV.p:=by
 induction l with
 |nil=>rfl
 |cons c l ih=>
  have e:af (c::l)=mG c::af l:=rfl;rw[e,List.flatMap_cons,List.flatMap_cons,ih,List.map_append];rfl
theorem gV(l:List UInt8):(af l).flatMap ga=af l:=by
 induction l with
 |nil=>rfl
 |cons c l ih=>
  have e:af (c::l)=mG c::af l:=rfl;rw[e,List.flatMap_cons,ih];rfl
theorem j7(l:List UInt8)(hl:l.length<=1000000000000):aq prog 104 [.sl (af l)] (.sl (af l)):=by
 have hb:(af l).length=l.length:=by simp[af]
 have h:=AW 0 (af l) (cF l) (gW l) (by omega);have hp:=sY h (ob:=⟨5,1,((af l).flatMap ga).map .p⟩) (ys:=af l) (by simp) rfl (by omega) (by simp[gV]) (by rw[qW];exact fY (by simp[gV])) rfl (cF l) (gW l);exact bI (xs:=[.sl (af l)]) hp ⟨_,rfl,.inl rfl⟩
theorem _root_.Go.aT.dO.up{b c:Nat}{D:aN}(h:dO b D)(hb:b<=c):dO c D:=⟨h.len,h.pos,h.top,h.kept,h.now,Nat.le_trans h.q hb,h.qs,h.left,h.n,h.bad⟩
theorem CL(D:aN)(b:Nat)(hD:dO b D)(a n:Int)(ha:-9223372036854775808<=a/\a<=9223372036854775807):aE prog 32 [.obj 0 0,.p (.int a),.p (.int n)] ⟨cE 3 D,cn 3,4⟩ (.agg true [.p (.sl ((D.read a n).2.1.map cy)),.p (.int (D.read a n).2.2)]) ⟨cE 4 (D.read a n).1,cn 4,5⟩:=by
 have hT:=DZ D hD.top a n ha;have hN:=CP 170 6 D b hD [.view 1 0 D.kept.length 64 none,.view 2 0 D.now.length 64 none,.own 3 (D.q.map J4)] (by simp);have y7:=hD.next;obtain⟨n1,n2,n3,n4⟩:=vI D;refine ah (rs:=[_,_]) [] [] [] func32 rfl ?_;by_cases c1:D.there a n=true
 ·have ht:=c1;unfold aN.there at ht;simp only[Bool.and_eq_true,decide_eq_true_eq]at ht;obtain⟨⟨⟨t1,t2⟩,t3⟩,t4⟩:=ht;obtain⟨A,rfl⟩:∃A:Nat,a=A:=⟨a.toNat,by omega⟩;obtain⟨K,rfl⟩:∃K:Nat,n=K:=⟨n.toNat,by omega⟩;by_cases c3:D.next.2=0
  ·have hw:D.read A K=(D.next.1,(D.now.drop A).take K,0):=by unfold aN.read;rw[if_pos c1,if_pos c3];rfl
   rw[hw];generalize D.next=N at*;obtain⟨E,e⟩:=N;simp only at*;subst c3;have FI:=y7.top;have hlen:=hD.len;rw[n1]at FI;have w1:IntKind.i64.wrap ((A:Int)+K)=((A+K:Nat):Int):=by rw[aD];rfl
   simp;refine mC hT rfl ?_;simp[c1];refine mC hN rfl ?_;have e1:((A:Int)+K).toNat-A=K:=by omega
   simp[w1,e1];refine⟨by omega,by omega,by omega,?_⟩;have lZ:=kV _ hD.now;refine aL (fun k:Nat=>k<=K) (fun k=>[(0,.obj 0 0),(9,.own 4 (((D.now.drop A).take k).map cy)),(32,.view 2 A K 64 none),(33,.p (.int K)),(34,.p (.int k))]) (fun _=>⟨cE 3 E,[(4,22,1),(3,174,65)],5⟩) (fun k=>K-k) 0 (by simp) _ (yJ 9 22 1 [] (.inr ⟨rfl,by simp⟩)) (ak (by simp[aj,n1,n2,n3,n4])) ?_;intro k hk;by_cases ck:k<K
   ·have hAk:A+k<D.now.length:=by omega
    have xD:D.now[A+k].length=64:=hD.now _ (List.getElem_mem hAk);have w2:=jq k;have UR:=Gn _ hD.now (A+k) hAk;have bl:(af D.now[A+k]).length=64:=by simp[af,xD]
    have OL:List.take 64 (List.drop ((A+k)*64) (List.map AV.p (D.now.flatMap af)))=(af D.now[A+k]).map AV.p:=by
     rw[<-UR];simp
    have iB:=j7 D.now[A+k] (by omega);have vV:(A+k)*64+64<=D.now.length*64:=by omega
    have hts:(D.now.drop A).take (k+1)=(D.now.drop A).take k++[D.now[A+k]]:=by
     rw[iA (by simp;omega)];simp
    simp[ck,aj,n2,lZ,vV,OL,bl];refine⟨by unfold maxLen;omega,bZ iB (by simp) ?_⟩;have aku:List.take (k+1) (List.drop A (List.map cy D.now))=List.take k (List.drop A (List.map cy D.now))++[cy D.now[A+k]]:=by
     have:=congrArg (List.map cy) hts;simpa using this
    simp[w2];refine⟨fun x hx=>?_,by omega,by omega,k+1,by omega,by omega,aB [(4,7)] (by simp[aku,n2,aj])⟩;obtain⟨y,_,rfl⟩:=List.mem_map.1 (List.mem_of_mem_drop (jH hx));rfl
   ·obtain rfl:k=K:=by omega
    simp[results32];exact⟨[(4,3)],by simp[aj,n1,n2,n3,n4]⟩
  ·have hw:D.read A K=(D.next.1,[],D.next.2):=by unfold aN.read;rw[if_pos c1,if_neg c3]
   rw[hw];generalize D.next=N at*;obtain⟨E,e⟩:=N;simp only at*;have j_:(e !=0)=true:=by simpa using c3
   simp;refine mC hT rfl ?_;simp[c1];refine mC hN rfl ?_;simp[j_,results32];exact⟨[(4,3)],by simp[aj,n1,n2,n3,n4]⟩
 ·have iP:D.there a n=false:=by simpa using c1
  have hw:D.read a n=(D,[],2):=by unfold aN.read;rw[if_neg c1]
  rw[hw];simp;refine mC hT rfl ?_;simp[iP,results32];exact⟨[(4,3)],by simp[aj]⟩
theorem iw(now:List dh)(q:List (Nat×dh))(k:List dh):(dz now q k).length=k.length:=by
 induction q generalizing k with
 |nil=>rfl
 |cons w q ih=>unfold dz;rw[ih];simp
theorem uv(now:List dh)(q:List (Nat×dh))(w:Nat×dh)(k:List dh):dz now (q++[w]) k=(dz now q k).set w.1 (now.getD w.1 []):=by
 induction q generalizing k with
 |nil=>rfl
 |cons v q ih=>rw[List.cons_append];unfold dz;exact ih _
theorem o8(now:List dh)(q:List (Nat×dh))(k:List dh)(hn:∀s∈now,s.length=64)(hk:∀s∈k,s.length=64)(hq:∀w∈q,w.1<now.length):∀s∈dz now q k,s.length=64:=by
 induction q generalizing k with
 |nil=>exact hk
 |cons w q ih=>
  unfold dz;refine ih _ (fun s hs=>?_) (fun v hv=>hq v (by simp[hv]));rcases List.mem_or_eq_of_mem_set hs with h|rfl
  ·exact hk s h
  ·have:=hq w (by simp);rw[pR,kq this];exact hn _ (List.getElem_mem this)
theorem _root_.Go.aT.dO.settle{b:Nat}{D:aN}(h:dO b D):dO 0 D.settle:=⟨by unfold aN.settle;simp only;rw[iw];exact h.len,by unfold aN.settle;simp only;rw[iw];exact h.pos,by unfold aN.settle;simp only;rw[iw];exact h.top,o8 _ _ _ h.now h.kept (fun w hw=>by rw[h.len];exact(h.qs w hw).1),h.now,Nat.le_refl _,by unfold aN.settle;simp,h.left,h.n,h.bad⟩
theorem Ld(D:aN)(b:Nat)(hD:dO b D)(hb:b<=1000000000000):aE prog 260 [.obj 0 0] ⟨cE 3 D,cn 3,4⟩ (.agg true []) ⟨cE 4 D.settle,cn 4,5⟩:=by
 have key:aE prog 260 [.obj 0 0] ⟨cE 3 D,cn 3,4⟩ (.agg true []) ⟨[(0,⟨170,6,[.p (.int D.n),.p (.sl (D.bad.map PC.int)),.p (.int D.left),.view 1 0 D.settle.kept.length 64 none,.view 2 0 D.now.length 64 none,.p .nil]⟩),(1,aj D.settle.kept),(2,aj D.now)],[],4⟩:=by
  have hq:=hD.q;have hlen:=hD.len;refine ah (rs:=[]) [] [(3,[(3,.r 1),(5,.r 2),(9,.r 1),(11,.r 2),(13,.r 3),(15,.s 4 [])])] [(1,0),(2,4),(3,2),(4,1)] func260 rfl ?_;simp;refine aL (fun k:Nat=>k<=D.q.length) (fun k=>[(0,.obj 0 0),(7,.p (.sl (D.q.map J4))),(8,.p (.int D.q.length)),(9,.p (.int k))]) (fun k=>⟨cE 3 {D with kept:=dz D.now (D.q.take k) D.kept},cn 3,4⟩) (fun k=>D.q.length-k) 0 (by simp) _ (AS.le_refl _ _) (ak (by simp[aj,dz])) ?_;intro k hk;by_cases ck:k<D.q.length
  ·obtain⟨q1,q2⟩:=hD.qs _ (List.getElem_mem ck);have w2:=jq k;have hwd:(J4 D.q[k]).width=65:=by simp[PC.width,af,q2]
   have hgk:(J4 D.q[k])= .agg false (.int D.q[k].1::af D.q[k].2):=rfl;have bl2:(af D.q[k].2).length=64:=by simp[af,q2]
   have rQ:=iw D.now (D.q.take k) D.kept;have xD:=o8 D.now (D.q.take k) D.kept hD.now hD.kept (fun w hw=>by rw[hlen];exact(hD.qs w (jH hw)).1);have lZ:=kV _ hD.now;have hsk:=kV _ xD;have U1:D.q[k].1<D.now.length:=by omega
   have UR:=Gn _ hD.now D.q[k].1 U1;have bl:(af D.now[D.q[k].1]).length=64:=by simp[af,hD.now _ (List.getElem_mem U1)]
   have OL:List.take 64 (List.drop (D.q[k].1*64) (List.map AV.p (D.now.flatMap af)))=(af D.now[D.q[k].1]).map AV.p:=by
    rw[<-UR];simp
   have gT:=Cu _ xD D.q[k].1 (by omega) D.now[D.q[k].1];have hts:dz D.now (D.q.take (k+1)) D.kept=(dz D.now (D.q.take k) D.kept).set D.q[k].1 D.now[D.q[k].1]:=by
    rw[iA ck,uv,pR,kq U1];rfl
   generalize dz D.now (D.q.take k) D.kept=K at*;have En:List.take (D.q[k].1*64) ((K.flatMap af).map AV.p)++((af D.now[D.q[k].1]).map AV.p++List.drop (D.q[k].1*64+64) ((K.flatMap af).map AV.p))=(((K.set D.q[k].1 D.now[D.q[k].1]).flatMap af).map AV.p):=by
    rw[<-gT];simp
   have b1:D.q[k].1*64+64<=D.now.length*64:=by omega
   have b2:D.q[k].1*64+64<=K.length*64:=by omega
   simp[ck,w2,aj,hwd,bl2,q1,U1,lZ,hsk,OL,En,bl,b1,rQ];refine⟨by omega,k+1,by omega,by omega,ak (by simp[hts,aj])⟩
  ·obtain rfl:k=D.q.length:=by omega
   simp[results260];exact⟨[],by simp[aj,aN.settle]⟩
 have h2:=tj (id:=0) (j:=5) 174 65 [] key rfl (.inr ⟨rfl,rfl⟩);exact ye h2 _ (by simp[ay,Tb.aP,Tb.bU,del,lk,aN.settle]) (by simp[ay,Tb.aP,Tb.bU]) (by simp) (by simp[Tb.aP,Tb.bU])
theorem eR(D:aN)(b:Nat)(hD:dO b D)(hb:b<=1000000000000):aE prog 166 [.obj 0 0] ⟨cE 3 D,cn 3,4⟩ (.p (.int D.flush.2)) ⟨cE 4 D.flush.1,cn 4,5⟩:=by
 have hN:=CP 170 6 D b hD [.view 1 0 D.kept.length 64 none,.view 2 0 D.now.length 64 none,.own 3 (D.q.map J4)] (by simp);have y7:=hD.next;obtain⟨n1,n2,n3,n4⟩:=vI D;have hS:=Ld D.next.1 b y7 hb;refine ah (rs:=[_]) [] [] [] func166 rfl ?_;by_cases c3:D.next.2=0
 ·have hw:D.flush=(D.next.1.settle,0):=by unfold aN.flush;rw[if_pos c3]
  rw[hw];generalize D.next=N at*;obtain⟨E,e⟩:=N;simp only at*;subst c3;simp;refine mC hN rfl ?_;simp;refine aA hS (by simp) (by simp[ay,n1,n2,n3,n4]) (by simp[ay]) rfl ?_;simp[results166];exact⟨[],by simp[aj]⟩
 ·have hw:D.flush=D.next:=by unfold aN.flush;rw[if_neg c3]
  rw[hw];generalize D.next=N at*;obtain⟨E,e⟩:=N;simp only at*;have j_:(e !=0)=true:=by simpa using c3
  simp;refine mC hN rfl ?_;simp[j_,results166];exact⟨[(4,3)],by simp[aj,n1,n2,n3,n4]⟩
def kI:dh:=List.replicate 64 0
def _root_.Go.aT.aN.made(n:Nat):aN:=⟨0,[],-1,List.replicate n kI,List.replicate n kI,[]⟩
theorem Dq(n:Nat)(h1:1<=n)(h2:n<=65536):dO 0 (aN.made n):=⟨rfl,by simpa[aN.made]using h1,by simpa[aN.made]using h2,fun s hs=>by rw[(List.mem_replicate.1 hs).2];rfl,fun s hs=>by rw[(List.mem_replicate.1 hs).2];rfl,Nat.le_refl _,by simp[aN.made],by simp[aN.made],by simp[aN.made],by simp[aN.made]⟩
theorem Dr(n:Nat):fW n Ds=(List.replicate n kI).flatMap af:=by
 have e:af kI=Ds:=rfl
 induction n with
 |zero=>rfl
 |succ n ih=>
  show List.flatten (List.replicate (n+1) Ds)=_;have ih':List.flatten (List.replicate n Ds)=(List.replicate n kI).flatMap af:=ih;rw[List.replicate_succ,List.flatten_cons,ih',List.replicate_succ,List.flatMap_cons,e]
theorem Ut(n:Nat)(h1:1<=n)(h2:n<=65536):aE prog 20 [.p (.int n)] ⟨[],[],0⟩ (.agg true [.obj 0 0,.p (.int 0)]) ⟨cE 3 (aN.made n),cn 3,4⟩:=by
 have key:aE prog 20 [.p (.int n)] ⟨[],[],0⟩ (.agg true [.obj 0 0,.p (.int 0)]) ⟨[(0,⟨170,6,[.p (.int 0),.p .nil,.p (.int (-1)),.view 1 0 n 64 (some n),.view 2 0 n 64 (some n),.p .nil]⟩),(1,aj (List.replicate n kI)),(2,aj (List.replicate n kI))],[],3⟩:=by
  refine FV (rs:=[_,_]) [16] [] [] [(3,(.one 0 (.one 1 (.one 3 (.br 2 (.br 4 (.one 5 (.br 6 (.one 7 (.one 8 .lf)) .lf)) .lf) (.br 4 (.br 2 (.one 5 (.br 6 (.one 7 (.one 8 .lf)) .lf)) .lf) .lf))))))] mixed func20 rfl (by kernel_rfl) (by kernel_rfl) (by simp[ntmps20]) rfl ?_;have c1:¬(n:Int)<1:=by omega
  have c2:¬(65536:Int)<n:=by omega
  have c3:n≠0:=by omega
  have b1:64*n<=281474976710656:=by omega
  have b2:n<=maxLen:=by unfold maxLen;omega
  simp[c1,c2,results20,b1,b2]
  repeat' apply And.intro
  all_goals first
   |(refine⟨[(0,2),(1,0),(2,1)],?_⟩;simp[aj,Dr];done)
   |(refine⟨[(0,2),(1,1),(2,0)],?_⟩;simp[aj,Dr];done)
 have k1:=mI (id:=0) (j:=3) (.view 1 0 n 64 none) key rfl rfl (by simp);have k2:=mI (id:=0) (j:=4) (.view 2 0 n 64 none) k1 rfl rfl (by simp);have k3:=mI (id:=0) (j:=1) (.p (.sl [])) k2 rfl rfl (by simp);have k4:=tj (id:=0) (j:=5) 174 65 [] k3 rfl (.inr ⟨rfl,rfl⟩);exact ye k4 _ (by simp[ay,Tb.aP,Tb.bU,del,lk,aN.made]) (by simp[ay,Tb.aP,Tb.bU]) (by simp) (by simp[Tb.aP,Tb.bU])
def _root_.Go.aT.aN.iX(D:aN):aN:=⟨0,[],-1,D.kept,dz D.kept D.q D.now,[]⟩
theorem _root_.Go.aT.dO.iX{b:Nat}{D:aN}(h:dO b D):dO 0 D.iX:=⟨by unfold aN.iX;simp only;rw[iw];exact h.len,h.pos,h.top,h.kept,o8 _ _ _ h.kept h.now (fun w hw=>(h.qs w hw).1),Nat.le_refl _,by simp[aN.iX],by simp[aN.iX],by simp[aN.iX],by simp[aN.iX]⟩
theorem SY(D:aN)(b:Nat)(hD:dO b D)(hb:b<=1000000000000):aE prog 18 [.obj 0 0,.p (.agg false [.nil,.int (-1),.int 0])] ⟨cE 3 D,cn 3,4⟩ (.agg true []) ⟨cE 4 D.iX,cn 4,5⟩:=by
 have hq:=hD.q;have hlen:=hD.len;have key:aE prog 18 [.obj 0 0,.p (.agg false [.nil,.int (-1),.int 0])] ⟨cE 3 D,cn 3,4⟩ (.agg true []) ⟨[(0,⟨170,6,[.p (.int 0),.p .nil,.p (.int (-1)),.view 1 0 D.kept.length 64 none,.view 2 0 D.iX.now.length 64 none,.p .nil]⟩),(1,aj D.kept),(2,aj D.iX.now)],[],4⟩:=by
  refine ah (rs:=[]) [] [(13,[(3,.r 1),(5,.r 2),(9,.r 1),(11,.r 2),(13,.r 3),(15,.s 4 [])]),(15,[(4,.s 1 []),(7,.w [])])] [(1,0),(2,4),(3,1),(4,2)] func18 rfl ?_;simp;refine aL (fun k:Nat=>k<=D.q.length) (fun k=>[(0,.obj 0 0),(3,.p (.ref (.agg false [.nil,.int (-1),.int 0]))),(16,.p (.sl (D.q.map J4))),(17,.p (.int D.q.length)),(18,.p (.int k))]) (fun k=>⟨cE 3 D,cn 3,4⟩) (fun k=>D.q.length-k) 0 (by simp) _ (AS.le_refl _ _) (ak (by simp[aj])) ?_;intro k hk;by_cases ck:k<D.q.length
  ·obtain⟨q1,q2⟩:=hD.qs _ (List.getElem_mem ck);have w2:=jq k;have hwd:(J4 D.q[k]).width=65:=by simp[PC.width,af,q2]
   have c2:((k:Int)==-1)=false:=by simp
   have bl2:(af D.q[k].2).length=64:=by simp[af,q2]
   have c3:¬(k:Int)<0:=by omega
   simp[ck,w2,hwd,c2,c3,bl2];exact⟨k+1,by omega,by omega,ak (by simp[aj])⟩
  ·obtain rfl:k=D.q.length:=by omega
   simp;refine aL (fun k:Nat=>k<=D.q.length) (fun k=>[(0,.obj 0 0),(67,.p (.sl (D.q.map J4))),(68,.p (.int D.q.length)),(69,.p (.int k))]) (fun k=>⟨cE 3 {D with now:=dz D.kept (D.q.take k) D.now},cn 3,4⟩) (fun k=>D.q.length-k) 0 (by simp) _ (AS.le_refl _ _) (ak (by simp[aj,dz])) ?_;intro k hk;by_cases ck:k<D.q.length
   ·obtain⟨q1,q2⟩:=hD.qs _ (List.getElem_mem ck);have w2:=jq k;have hwd:(J4 D.q[k]).width=65:=by simp[PC.width,af,q2]
    have bl2:(af D.q[k].2).length=64:=by simp[af,q2]
    have rQ:=iw D.kept (D.q.take k) D.now;have xD:=o8 D.kept (D.q.take k) D.now hD.kept hD.now (fun w hw=>(hD.qs w (jH hw)).1);have lZ:=kV _ hD.kept;have hsk:=kV _ xD;have U1:D.q[k].1<D.kept.length:=by omega
    have aje:D.q[k].1<D.now.length:=by omega
    have UR:=Gn _ hD.kept D.q[k].1 U1;have bl:(af D.kept[D.q[k].1]).length=64:=by simp[af,hD.kept _ (List.getElem_mem U1)]
    have OL:List.take 64 (List.drop (D.q[k].1*64) (List.map AV.p (D.kept.flatMap af)))=(af D.kept[D.q[k].1]).map AV.p:=by
     rw[<-UR];simp
    have gT:=Cu _ xD D.q[k].1 (by omega) D.kept[D.q[k].1];have hts:dz D.kept (D.q.take (k+1)) D.now=(dz D.kept (D.q.take k) D.now).set D.q[k].1 D.kept[D.q[k].1]:=by
     rw[iA ck,uv,pR,kq U1];rfl
    generalize dz D.kept (D.q.take k) D.now=K at*;have En:List.take (D.q[k].1*64) ((K.flatMap af).map AV.p)++((af D.kept[D.q[k].1]).map AV.p++List.drop (D.q[k].1*64+64) ((K.flatMap af).map AV.p))=(((K.set D.q[k].1 D.kept[D.q[k].1]).flatMap af).map AV.p):=by
     rw[<-gT];simp
    have b1:D.q[k].1*64+64<=D.kept.length*64:=by omega
    have b2:D.q[k].1*64+64<=K.length*64:=by omega
    have b3:D.q[k].1*64+64<=D.now.length*64:=by omega
    simp[ck,w2,aj,hwd,bl2,q1,aje,lZ,hsk,OL,En,bl,b1,b3,rQ];refine⟨k+1,by omega,by omega,ak (by simp[hts,aj,rQ])⟩
   ·obtain rfl:k=D.q.length:=by omega
    simp[results18];exact⟨[],by simp[aj,aN.iX]⟩
 have k3:=mI (id:=0) (j:=1) (.p (.sl [])) key rfl rfl (by simp);have h2:=tj (id:=0) (j:=5) 174 65 [] k3 rfl (.inr ⟨rfl,rfl⟩);exact ye h2 _ (by simp[ay,Tb.aP,Tb.bU,del,lk,aN.iX]) (by simp[ay,Tb.aP,Tb.bU]) (by simp) (by simp[Tb.aP,Tb.bU])
end Go.Av
namespace Go.Av
open Go.Proofs
abbrev dn(l:Bool)(ks:List (List UInt8))(vs:List Int):PC:= .agg false [.bool l,.sl (ks.map PC.str),.sl (vs.map PC.int)]
def below(p:List UInt8->Bool)(ks:List (List UInt8)):Nat:=(ks.takeWhile p).length
theorem xV(p:List UInt8->Bool)(ks:List (List UInt8)):below p ks<=ks.length:=by
 induction ks with
 |nil=>simp[below]
 |cons a ks ih=>unfold below at*;simp only[List.takeWhile_cons,List.length_cons];split<;>simp<;>omega
theorem DI{p:List UInt8->Bool}{ks:List (List UInt8)}{k:Nat}(h:∀x∈ks.take k,p x=true)(hk:k<=ks.length)(he:(hk:k<ks.length)->p ks[k]=false):below p ks=k:=by
 induction ks generalizing k with
 |nil=>simp at hk;simp[below,hk]
 |cons a ks ih=>
  cases k with
  |zero=>have:=he (by simp);simp at this;simp[below,this]
  |succ k=>
   have ha:=h a (by simp);have:=ih (k:=k) (fun x hx=>h x (by simp[hx])) (by simpa using hk) (fun hk'=>by have:=he (by simp;omega);simpa using this);unfold below at*;simp[ha,this]
end Go.Av
namespace Go.Av
open Go.Proofs Go.Proofs.Tryz
theorem Q7:J_ prog 364:=⟨Tryz.f364,40,4,9,func364,by kernel_rfl,by kernel_rfl,by kernel_rfl,by kernel_rfl,by kernel_rfl,by kernel_rfl⟩
theorem HL:J_ prog 366:=⟨Tryz.f366,87,4,3,func366,by kernel_rfl,by kernel_rfl,by kernel_rfl,by kernel_rfl,by kernel_rfl,by kernel_rfl⟩
theorem Xe:dP prog 55:=⟨Tryz.f55,func55,by kernel_rfl,by kernel_rfl⟩
theorem Ih(nx:Nat)(xs:List PC)(hw:∀x∈xs,x.width=1)(ht:∀x∈xs,cw x=true)(hb:xs.length<=1000000000000):aE prog 55 [.p (.sl xs)] ⟨[],[],nx⟩ (.view nx 0 xs.length 1 none) ⟨[(nx,⟨9,1,(xs.flatMap ga).map .p⟩)],[],nx+1⟩:=by
 refine qR (pre:=[]) (post:=[]) Xe ?_ ?_
 ·rintro rfl;refine fG (r:= .p .nil) (aM:=⟨[],[],nx⟩) (el:=9) (s:=1) ?_ trivial;refine ah (rs:=[.p .nil]) [7] [] [] func55 rfl ?_;simp[results55];exact⟨[],by simp⟩
 ·refine ah (rs:=[_]) [7] [] [] func55 rfl ?_;simp[results55];refine⟨hw,ht,by omega,by omega,[],?_⟩;simp
theorem SE:dP prog 132:=⟨Tryz.f132,func132,by kernel_rfl,by kernel_rfl⟩
theorem DX(nx:Nat)(xs:List PC)(hw:∀x∈xs,x.width=1)(ht:∀x∈xs,cw x=true)(hb:xs.length<=1000000000000):aE prog 132 [.p (.sl xs)] ⟨[],[],nx⟩ (.view nx 0 xs.length 1 none) ⟨[(nx,⟨3,1,(xs.flatMap ga).map .p⟩)],[],nx+1⟩:=by
 refine qR (pre:=[]) (post:=[]) SE ?_ ?_
 ·rintro rfl;refine fG (r:= .p .nil) (aM:=⟨[],[],nx⟩) (el:=3) (s:=1) ?_ trivial;refine ah (rs:=[.p .nil]) [7] [] [] func132 rfl ?_;simp[results132];exact⟨[],by simp⟩
 ·refine ah (rs:=[_]) [7] [] [] func132 rfl ?_;simp[results132];refine⟨hw,ht,by omega,by omega,[],?_⟩;simp
theorem SF:dP prog 321:=⟨Tryz.f321,func321,by kernel_rfl,by kernel_rfl⟩
theorem Ke(nx id:Nat)(hid:id<nx)(cs:List PC)(n i j:Nat)(hn:cs.length=n*1)(hij:i<=j)(hj:j<=n)(hb:n<=1000000000000):aE prog 321 [.view id 0 n 1 none,.p (.int i),.p (.int j)] ⟨[(id,⟨9,1,cs.map .p⟩)],[],nx⟩ (.view nx 0 (n-(j-i)) 1 none) ⟨[(nx,⟨9,1,(cs.take (i*1)++cs.drop (j*1)).map .p⟩)],[],nx+1⟩:=by
 have hne:¬id=nx:=by omega
 have eX:¬nx=id:=by omega
 have iB:(cs.map AV.p).length=n:=by simp;omega
 refine kH (pre:=[]) (post:=[_,_]) SF (fun c h1 h2 h3=>?_) ?_
 ·refine ah (rs:=[_]) [] [(5,[(6,.w [])])] [] func321 rfl ?_;generalize hA:cs.map AV.p=A at*;by_cases c0:i=j
  ·subst c0;have hd:List.take i A++List.drop i A=A:=List.take_append_drop _ _;simp[results321,hne,eX];exact⟨hj,[(nx,id)],by simp[hA]⟩
  ·have e0:((i:Int)==(j:Int))=false:=by rw[beq_eq_false_iff_ne];omega
   have t1:((i:Int)+((n-j:Nat):Int)).toNat=i+(n-j):=by omega
   have key:=fun R=>Cr (R:=R) iB hij hj rfl;simp[e0,t1,results321,hne,eX]
   repeat' refine And.intro ?_ ?_
   all_goals first|omega|skip
   refine .inl ?_
   repeat' refine And.intro ?_ ?_
   all_goals first|omega|(simp;omega)|skip
   refine⟨[(nx,id)],?_⟩;simp[hA,key];omega
 ·intro hn0;have Lv:i=0:=by omega
  have hj0:j=0:=by omega
  have hc0:cs=[]:=mB (by omega);subst Lv;subst hj0;subst hc0;subst hn0;refine fG (r:= .full []) (aM:=⟨[],[],nx⟩) (el:=9) (s:=1) ?_ trivial;refine ah (rs:=[_]) [] [(5,[(6,.w [])])] [] func321 rfl ?_;simp[results321]
  repeat' refine And.intro ?_ ?_
  all_goals first|omega|exact⟨[],by simp⟩|simp
theorem SG:dP prog 322:=⟨Tryz.f322,func322,by kernel_rfl,by kernel_rfl⟩
theorem Kf(nx id:Nat)(hid:id<nx)(cs:List PC)(n i j:Nat)(hn:cs.length=n*1)(hij:i<=j)(hj:j<=n)(hb:n<=1000000000000):aE prog 322 [.view id 0 n 1 none,.p (.int i),.p (.int j)] ⟨[(id,⟨3,1,cs.map .p⟩)],[],nx⟩ (.view nx 0 (n-(j-i)) 1 none) ⟨[(nx,⟨3,1,(cs.take (i*1)++cs.drop (j*1)).map .p⟩)],[],nx+1⟩:=by
 have hne:¬id=nx:=by omega
 have eX:¬nx=id:=by omega
 have iB:(cs.map AV.p).length=n:=by simp;omega
 refine kH (pre:=[]) (post:=[_,_]) SG (fun c h1 h2 h3=>?_) ?_
 ·refine ah (rs:=[_]) [] [(5,[(6,.w [])])] [] func322 rfl ?_;generalize hA:cs.map AV.p=A at*;by_cases c0:i=j
  ·subst c0;have hd:List.take i A++List.drop i A=A:=List.take_append_drop _ _;simp[results322,hne,eX];exact⟨hj,[(nx,id)],by simp[hA]⟩
  ·have e0:((i:Int)==(j:Int))=false:=by rw[beq_eq_false_iff_ne];omega
   have t1:((i:Int)+((n-j:Nat):Int)).toNat=i+(n-j):=by omega
   have key:=fun R=>Cr (R:=R) iB hij hj rfl;simp[e0,t1,results322,hne,eX]
   repeat' refine And.intro ?_ ?_
   all_goals first|omega|skip
   refine .inl ?_
   repeat' refine And.intro ?_ ?_
   all_goals first|omega|(simp;omega)|skip
   refine⟨[(nx,id)],?_⟩;simp[hA,key];omega
 ·intro hn0;have Lv:i=0:=by omega
  have hj0:j=0:=by omega
  have hc0:cs=[]:=mB (by omega);subst Lv;subst hj0;subst hc0;subst hn0;refine fG (r:= .full []) (aM:=⟨[],[],nx⟩) (el:=3) (s:=1) ?_ trivial;refine ah (rs:=[_]) [] [(5,[(6,.w [])])] [] func322 rfl ?_;simp[results322]
  repeat' refine And.intro ?_ ?_
  all_goals first|omega|exact⟨[],by simp⟩|simp
theorem mM{α:Type}{l:List α}{k:Nat}(h:k<l.length):l.take (k+1)=l.take k++[l[k]]:=iA h
theorem nI(l:List Nat)(k:Nat):(l.take k).sum<=l.sum:=by
 have:=List.sum_append (l₁:=l.take k) (l₂:=l.drop k);rw[List.take_append_drop]at this;omega
theorem Q6:dP prog 324:=⟨Tryz.f324,func324,by kernel_rfl,by kernel_rfl⟩
theorem AH(nx id:Nat)(hid:id<nx)(cs:List PC)(n i:Nat)(vs:List PC)(hn:cs.length=n*1)(hi:i<=n)(hw:∀x∈vs,x.width=1)(ht:∀x∈vs,cw x=true)(hb:n<=1000000000000)(vV:vs.length<=1000000000000):aE prog 324 [.view id 0 n 1 none,.p (.int i),.p (.sl vs)] ⟨[(id,⟨9,1,cs.map .p⟩)],[],nx⟩ (.view nx 0 (n+vs.length) 1 none) ⟨[(nx,⟨9,1,(cs.take (i*1)++vs.flatMap ga++cs.drop (i*1)).map .p⟩)],[],nx+1⟩:=by
 have hne:¬id=nx:=by omega
 refine kH (pre:=[]) (post:=[_,_]) Q6 (fun c h1 h2 h3=>?_) ?_
 ·have hwr:∀k:Int,0<=k->k<=4000000000000->IntKind.i64.wrap k=k:=fun k h1 h2=>aD;refine ah (rs:=[_]) [] [(11,[(8,.w [])]),(15,[(8,.w [])])] [] func324 rfl ?_;have w1:IntKind.i64.wrap ((n:Int)+(vs.length:Int))=(n:Int)+(vs.length:Int):=hwr _ (by omega) (by omega);have w2:IntKind.i64.wrap ((n:Int)+(vs.length:Int)-(i:Int))=(n:Int)+(vs.length:Int)-(i:Int):=hwr _ (by omega) (by omega);have w3:IntKind.i64.wrap ((i:Int)+(vs.length:Int))=(i:Int)+(vs.length:Int):=hwr _ (by omega) (by omega);have t1:((n:Int)+(vs.length:Int)).toNat=n+vs.length:=by omega
  have t2:((n:Int)+(vs.length:Int)-(i:Int)).toNat=n+vs.length-i:=by omega
  have t3:((i:Int)+(vs.length:Int)).toNat=i+vs.length:=by omega
  have eX:¬nx=id:=by omega
  by_cases c0:vs.length=0
  ·have:vs=[]:=mB c0;subst this;simp[results324,hi,h1];exact⟨[(nx,id)],by simp⟩
  ·have e0:(((vs.length:Nat):Int)==0)=false:=by simpa using c0
   by_cases c1:i=n
   ·subst c1;have hcs:List.drop i (cs.map AV.p)=[]:=List.drop_of_length_le (by simp;omega);simp[e0,results324,h1,hne,eX,hcs];refine⟨by omega,hw,ht,?_⟩;rcases Nat.lt_or_ge c (i+vs.length)with h|h
    ·exact .inr ⟨h,by omega,by omega,[],by simp⟩
    ·exact .inl ⟨h,[(nx,id)],by simp⟩
   ·have e1:((i:Int)==(n:Int))=false:=by rw[beq_eq_false_iff_ne];omega
    have iB:(cs.map AV.p).length=n:=by simp;omega
    have hvl:(vs.flatMap ga).length=vs.length:=by have:=oe hw;omega
    have m1:vs.length.min (n+vs.length-i)=vs.length:=Nat.min_eq_left (by omega);have m2:(n-i).min (i+(n+vs.length-i)-(i+vs.length))=n-i:=Nat.min_eq_left (by omega);have m3:List.take vs.length vs=vs:=List.take_length;have BV:((vs.flatMap ga).map AV.p).length=vs.length:=by simpa using hvl
    by_cases c2:c<n+vs.length
    ·have e2:(decide ((c:Int)<(n:Int)+(vs.length:Int)))=true:=by simp;omega
     have key:=Dn (z:= .p (.str [])) iB BV hi;generalize hA:cs.map AV.p=A at*;simp[e0,e1,w1,e2,w2,w3,t1,t2,t3,results324,hi,h1,hne,eX,m1,m2,m3,key]
     repeat' refine And.intro ?_ ?_
     all_goals first|omega|assumption|skip
     exact⟨[],by simp[hA];omega⟩
    ·have e2:(decide ((c:Int)<(n:Int)+(vs.length:Int)))=false:=by simp;omega
     have m4:(n+vs.length-i).min (n+vs.length-(i+vs.length))=n-i:=by
      rw[show n+vs.length-(i+vs.length)=n-i by omega];exact Nat.min_eq_right (by omega)
     have key:=Dp iB BV hi rfl;generalize hA:cs.map AV.p=A at*;simp[e0,e1,w1,e2,w2,w3,t1,t2,t3,results324,hi,h1,hne,eX];refine⟨by omega,by omega,by omega,by omega,tf Q7 (.inr rfl) (ob:=⟨9,1,A⟩) (by simp) rfl (by omega) (by simp) (by simp[tg]) ?_⟩;simp[e0,e1,w1,e2,w2,w3,t1,t2,t3,results324,hi,h1,hne,eX,m1,m3,m4,key]
     repeat' refine And.intro ?_ ?_
     all_goals first|omega|assumption|(rw[eN];omega)|skip
     exact⟨[(nx,id)],by simp[hA]⟩
 ·intro hn0;have Lv:i=0:=by omega
  have hc0:cs=[]:=mB (by omega);subst Lv;subst hc0;subst hn0;by_cases c0:vs.length=0
  ·have:vs=[]:=mB c0;subst this;refine fG (r:= .full []) (aM:=⟨[],[],nx⟩) (el:=9) (s:=1) ?_ trivial;refine ah (rs:=[_]) [] [(11,[(8,.w [])]),(15,[(8,.w [])])] [] func324 rfl ?_;simp[results324];exact⟨[],by simp⟩
  ·have e0:(((vs.length:Nat):Int)==0)=false:=by simpa using c0
   refine ah (rs:=[_]) [25] [(11,[(8,.w [])]),(15,[(8,.w [])])] [] func324 rfl ?_;simp[e0,results324];exact⟨hw,ht,by omega,by omega,[],by simp⟩
theorem Rt:dP prog 325:=⟨Tryz.f325,func325,by kernel_rfl,by kernel_rfl⟩
theorem JA(nx id:Nat)(hid:id<nx)(cs:List PC)(n i:Nat)(vs:List PC)(hn:cs.length=n*1)(hi:i<=n)(hw:∀x∈vs,x.width=1)(ht:∀x∈vs,cw x=true)(hb:n<=1000000000000)(vV:vs.length<=1000000000000):aE prog 325 [.view id 0 n 1 none,.p (.int i),.p (.sl vs)] ⟨[(id,⟨3,1,cs.map .p⟩)],[],nx⟩ (.view nx 0 (n+vs.length) 1 none) ⟨[(nx,⟨3,1,(cs.take (i*1)++vs.flatMap ga++cs.drop (i*1)).map .p⟩)],[],nx+1⟩:=by
 have hne:¬id=nx:=by omega
 refine kH (pre:=[]) (post:=[_,_]) Rt (fun c h1 h2 h3=>?_) ?_
 ·have hwr:∀k:Int,0<=k->k<=4000000000000->IntKind.i64.wrap k=k:=fun k h1 h2=>aD;refine ah (rs:=[_]) [] [(11,[(8,.w [])]),(15,[(8,.w [])])] [] func325 rfl ?_;have w1:IntKind.i64.wrap ((n:Int)+(vs.length:Int))=(n:Int)+(vs.length:Int):=hwr _ (by omega) (by omega);have w2:IntKind.i64.wrap ((n:Int)+(vs.length:Int)-(i:Int))=(n:Int)+(vs.length:Int)-(i:Int):=hwr _ (by omega) (by omega);have w3:IntKind.i64.wrap ((i:Int)+(vs.length:Int))=(i:Int)+(vs.length:Int):=hwr _ (by omega) (by omega);have t1:((n:Int)+(vs.length:Int)).toNat=n+vs.length:=by omega
  have t2:((n:Int)+(vs.length:Int)-(i:Int)).toNat=n+vs.length-i:=by omega
  have t3:((i:Int)+(vs.length:Int)).toNat=i+vs.length:=by omega
  have eX:¬nx=id:=by omega
  by_cases c0:vs.length=0
  ·have:vs=[]:=mB c0;subst this;simp[results325,hi,h1];exact⟨[(nx,id)],by simp⟩
  ·have e0:(((vs.length:Nat):Int)==0)=false:=by simpa using c0
   by_cases c1:i=n
   ·subst c1;have hcs:List.drop i (cs.map AV.p)=[]:=List.drop_of_length_le (by simp;omega);simp[e0,results325,h1,hne,eX,hcs];refine⟨by omega,hw,ht,?_⟩;rcases Nat.lt_or_ge c (i+vs.length)with h|h
    ·exact .inr ⟨h,by omega,by omega,[],by simp⟩
    ·exact .inl ⟨h,[(nx,id)],by simp⟩
   ·have e1:((i:Int)==(n:Int))=false:=by rw[beq_eq_false_iff_ne];omega
    have iB:(cs.map AV.p).length=n:=by simp;omega
    have hvl:(vs.flatMap ga).length=vs.length:=by have:=oe hw;omega
    have m1:vs.length.min (n+vs.length-i)=vs.length:=Nat.min_eq_left (by omega);have m2:(n-i).min (i+(n+vs.length-i)-(i+vs.length))=n-i:=Nat.min_eq_left (by omega);have m3:List.take vs.length vs=vs:=List.take_length;have BV:((vs.flatMap ga).map AV.p).length=vs.length:=by simpa using hvl
    by_cases c2:c<n+vs.length
    ·have e2:(decide ((c:Int)<(n:Int)+(vs.length:Int)))=true:=by simp;omega
     have key:=Dn (z:= .p (.sc (.int .i64 0))) iB BV hi;generalize hA:cs.map AV.p=A at*;simp[e0,e1,w1,e2,w2,w3,t1,t2,t3,results325,hi,h1,hne,eX,m1,m2,m3,key]
     repeat' refine And.intro ?_ ?_
     all_goals first|omega|assumption|skip
     exact⟨[],by simp[hA];omega⟩
    ·have e2:(decide ((c:Int)<(n:Int)+(vs.length:Int)))=false:=by simp;omega
     have m4:(n+vs.length-i).min (n+vs.length-(i+vs.length))=n-i:=by
      rw[show n+vs.length-(i+vs.length)=n-i by omega];exact Nat.min_eq_right (by omega)
     have key:=Dp iB BV hi rfl;generalize hA:cs.map AV.p=A at*;simp[e0,e1,w1,e2,w2,w3,t1,t2,t3,results325,hi,h1,hne,eX];refine⟨by omega,by omega,by omega,by omega,tf HL (.inr rfl) (ob:=⟨3,1,A⟩) (by simp) rfl (by omega) (by simp) (by simp[tg]) ?_⟩;simp[e0,e1,w1,e2,w2,w3,t1,t2,t3,results325,hi,h1,hne,eX,m1,m3,m4,key]
     repeat' refine And.intro ?_ ?_
     all_goals first|omega|assumption|(rw[eN];omega)|skip
     exact⟨[(nx,id)],by simp[hA]⟩
 ·intro hn0;have Lv:i=0:=by omega
  have hc0:cs=[]:=mB (by omega);subst Lv;subst hc0;subst hn0;by_cases c0:vs.length=0
  ·have:vs=[]:=mB c0;subst this;refine fG (r:= .full []) (aM:=⟨[],[],nx⟩) (el:=3) (s:=1) ?_ trivial;refine ah (rs:=[_]) [] [(11,[(8,.w [])]),(15,[(8,.w [])])] [] func325 rfl ?_;simp[results325];exact⟨[],by simp⟩
  ·have e0:(((vs.length:Nat):Int)==0)=false:=by simpa using c0
   refine ah (rs:=[_]) [25] [(11,[(8,.w [])]),(15,[(8,.w [])])] [] func325 rfl ?_;simp[e0,results325];exact⟨hw,ht,by omega,by omega,[],by simp⟩
theorem TQ:dP prog 326:=⟨Tryz.f326,func326,by kernel_rfl,by kernel_rfl⟩
theorem GZ(nx id:Nat)(hid:id<nx)(cs:List PC)(n i j:Nat)(vs:List PC)(hn:cs.length=n*1)(hij:i<j)(hj:j<=n)(hw:∀x∈vs,x.width=1)(ht:∀x∈vs,cw x=true)(hb:n<=1000000000000)(vV:vs.length<=1000000000000):aE prog 326 [.view id 0 n 1 none,.p (.int i),.p (.int j),.p (.sl vs)] ⟨[(id,⟨3,1,cs.map .p⟩)],[],nx⟩ (.view nx 0 (i+vs.length+(n-j)) 1 none) ⟨[(nx,⟨3,1,(cs.take (i*1)++vs.flatMap ga++cs.drop (j*1)).map .p⟩)],[],nx+1⟩:=by
 have hne:¬id=nx:=by omega
 have eX:¬nx=id:=by omega
 have iB:(cs.map AV.p).length=n:=by simp;omega
 have hvl:(vs.flatMap ga).length=vs.length:=by have:=oe hw;omega
 have BV:((vs.flatMap ga).map AV.p).length=vs.length:=by simpa using hvl
 have m3:List.take vs.length vs=vs:=List.take_length;refine kH (pre:=[]) (post:=[_,_,_]) TQ (fun c h1 h2 h3=>?_) (fun h0=>by omega);have hwr:∀k:Int,0<=k->k<=4000000000000->IntKind.i64.wrap k=k:=fun k h1 h2=>aD;refine ah (rs:=[_]) [] [(13,[(9,.w [])]),(18,[(9,.w [])]),(22,[(9,.w [])])] [] func326 rfl ?_;have e0:((i:Int)==(j:Int))=false:=by rw[beq_eq_false_iff_ne];omega
 generalize hA:cs.map AV.p=A at*;have hVl:∀m,AV.fD.eM m ((vs.flatMap ga).map AV.p)=true:=fun m=>X7;have hVr:∀ρ,AV.ren.dm ρ ((vs.flatMap ga).map AV.p)=(vs.flatMap ga).map AV.p:=fun ρ=>X6;generalize hV:(vs.flatMap ga).map AV.p=V at*;by_cases c1:j=n
 ·subst c1;have hdr:List.drop j A=[]:=List.drop_of_length_le (by omega);by_cases c2:i+vs.length<j
  ·have e2:decide ((i:Int)+(vs.length:Int)<(j:Int))=true:=by simp;omega
   have t1:((i:Int)+(vs.length:Int)).toNat=i+vs.length:=by omega
   simp[e0,e2,t1,results326,hne,eX,hV]
   repeat' refine And.intro ?_ ?_
   all_goals first|omega|assumption|skip
   refine .inl ?_
   repeat' refine And.intro ?_ ?_
   all_goals first|omega|assumption|(simp;omega)|skip
   refine⟨[(nx,id)],?_⟩;have l1:(List.take i A++V).length=i+vs.length:=by simp;omega
   have e4:∀R,List.take (i+vs.length) (List.take i A++(V++R))=List.take i A++V:=fun R=>by rw[<-List.append_assoc];exact List.take_left' l1
   simp[hA,hVl,hVr,hdr,e4]
  ·have e2:decide ((i:Int)+(vs.length:Int)<(j:Int))=false:=by simp;omega
   simp[e0,e2,results326,hne,eX,hV]
   repeat' refine And.intro ?_ ?_
   all_goals first|omega|assumption|skip
   rcases Nat.lt_or_ge c (i+vs.length)with h|h
   ·exact .inr ⟨h,by omega,by omega,[],by simp[hA,hVl,hVr,hdr]⟩
   ·exact .inl ⟨h,[(nx,id)],by simp[hA,hVl,hVr,hdr]⟩
 ·have e1:((j:Int)==(n:Int))=false:=by rw[beq_eq_false_iff_ne];omega
  have w1:IntKind.i64.wrap ((i:Int)+(vs.length:Int))=(i:Int)+(vs.length:Int):=hwr _ (by omega) (by omega);have w2:IntKind.i64.wrap ((i:Int)+(vs.length:Int)+((n-j:Nat):Int))=(i:Int)+(vs.length:Int)+((n-j:Nat):Int):=hwr _ (by omega) (by omega);have w3:IntKind.i64.wrap ((i:Int)+(vs.length:Int)+((n-j:Nat):Int)-(i:Int))=(i:Int)+(vs.length:Int)+((n-j:Nat):Int)-(i:Int):=hwr _ (by omega) (by omega);have t1:((i:Int)+(vs.length:Int)).toNat=i+vs.length:=by omega
  have t2:((i:Int)+(vs.length:Int)+((n-j:Nat):Int)).toNat=i+vs.length+(n-j):=by omega
  have t3:((i:Int)+(vs.length:Int)+((n-j:Nat):Int)-(i:Int)).toNat=vs.length+(n-j):=by omega
  rcases Nat.lt_or_ge c (i+vs.length+(n-j))with h|h
  ·have e2:decide ((c:Int)<(i:Int)+(vs.length:Int)+((n-j:Nat):Int))=true:=by simp;omega
   have m1:vs.length.min (vs.length+(n-j))=vs.length:=Nat.min_eq_left (by omega);have m2:(n-j).min (i+(vs.length+(n-j))-(i+vs.length))=n-j:=Nat.min_eq_left (by omega);simp[e0,e1,e2,w1,w2,w3,t1,t2,t3,results326,hne,eX,m1,m2,m3,hV]
   repeat' refine And.intro ?_ ?_
   all_goals first|omega|assumption|skip
   refine⟨[],?_⟩;have key:=KQ (Q:=List.take i A) (V:=V) (S:=List.take (n-j) (List.drop j A)) (R:=List.replicate (vs.length+(n-j)) (AV.p (.sc (.int .i64 0)))) (i:=i) (m:=vs.length) (k:=n-j) (by simp;omega) BV (by simp;omega) (by simp);have e4:List.take (n-j) (List.drop j A)=List.drop j A:=fY (by simp;omega);rw[e4]at key;simp[hA,hVl,hVr,e4,key];omega
  ·have e2:decide ((c:Int)<(i:Int)+(vs.length:Int)+((n-j:Nat):Int))=false:=by simp;omega
   by_cases c2:i+vs.length<=j
   ·have e3:decide ((i:Int)+(vs.length:Int)<=(j:Int))=true:=by simp;omega
    have m1:vs.length.min (i+vs.length+(n-j)-i)=vs.length:=Nat.min_eq_left (by omega);have m2:(n-j).min (i+vs.length+(n-j)-(i+vs.length))=n-j:=Nat.min_eq_left (by omega);have p1:bB i A=A:=eU (by omega);have p2:bB (i+vs.length) (List.take i A++(V++List.drop (i+vs.length) A))=List.take i A++(V++List.drop (i+vs.length) A):=eU (by simp;omega);have key:=fun R=>G0 (A:=A) (V:=V) iB BV hj c2 rfl R;simp[e0,e1,e2,e3,w1,w2,w3,t1,t2,t3,results326,hne,eX,m1,m2,m3,hV,p1,p2]
    repeat' refine And.intro ?_ ?_
    all_goals first|omega|assumption|skip
    refine⟨[(nx,id)],?_⟩;simp[hA,hVl,hVr,key]
   ·have e3:decide ((i:Int)+(vs.length:Int)<=(j:Int))=false:=by simp;omega
    have m1:vs.length.min (i+vs.length+(n-j)-i)=vs.length:=Nat.min_eq_left (by omega);have m2:(n-j).min (i+vs.length+(n-j)-(i+vs.length))=n-j:=Nat.min_eq_left (by omega);simp[e0,e1,e2,e3,w1,w2,w3,t1,t2,t3,results326,hne,eX]
    repeat' refine And.intro ?_ ?_
    all_goals first|omega|assumption|skip
    refine tf HL (.inl rfl) (ob:=⟨3,1,A⟩) (by simp) rfl (by omega) (by simp) (by simp[tg]) ?_;have key:=KR (A:=A) (V:=V) (i:=i) (j:=j) iB BV (by omega) hj (by omega) rfl;simp[e0,e1,e2,e3,w1,w2,w3,t1,t2,t3,results326,hne,eX,m1,m2,m3,hV]
    repeat' refine And.intro ?_ ?_
    all_goals first|omega|assumption|(rw[eN];omega)|skip
    refine⟨[(nx,id)],?_⟩;simp[hA,hVl,hVr,key]
end Go.Av
