/- TiersAgain, part 16: what functions compute, and its plain law; no condition. -/
import Derived.Test.YtgkdpbambfgahaaGreatDoorWao
import Derived.WalkKit
set_option linter.all false
set_option maxRecDepth 100000
set_option maxHeartbeats 64000000
namespace Go.aL
theorem xG(f:Nat->Int):∀(d n i j:Nat),j-i<=d->j-i<=n->zR f n i j=zR f d i j
 |0,0,_,_,_,_=>rfl
 |0,n+1,i,j,h,_=>by unfold zR;rw[if_neg O]
 |d+1,0,i,j,_,h=>by unfold zR;rw[if_neg O]
 |d+1,n+1,i,j,h1,h2=>by
  unfold zR;by_cases c:i<j
  .rw[if_pos c,if_pos c];split
   .exact xG f d n _ _ O O
   .exact xG f d n _ _ O O
  .rw[if_neg c,if_neg c]
theorem Ly(f:Nat->Int):∀(n i j:Nat),i<=j->i<=zR f n i j/\zR f n i j<=j
 |0,i,j,h=>by unfold zR;omega
 |n+1,i,j,h=>by
  unfold zR;split
  .split
   .have:=Ly f n ((i+j)/2+1) j O;omega
   .have:=Ly f n i ((i+j)/2) O;omega
  .omega
end Go.aL
namespace Go.Av
open Go.Proofs Go.Proofs.Tryz Go.aL
def K9(g:FuncId)(key:aF)(f:Kn->Int)(l:List Kn)(hl:l.length<=1000000)(hg:∀x∈l,cq g [Pt x,.str key] (.int (f x)))(c:Nat->Int)(hc:∀i (h:i<l.length),c i=f l[i]):cq 154 [.sl (l.map Pt),.str key,.fn (.func g) []] (.tp [.int (zR c l.length 0 l.length),.bool (decide (zR c l.length 0 l.length<l.length)&&(c (zR c l.length 0 l.length)==0))]):=by
 refine ay [_,_] func154 rfl ?_;simp;generalize hR:zR c l.length 0 l.length=R;refine bI (λij:Nat×Nat=>ij.1<=ij.2/\ij.2<=l.length/\zR c (ij.2-ij.1) ij.1 ij.2=R) (λij=>[(0,.p (.sl (l.map Pt))),(1,.p (.str key)),(2,.p (.fn (.func g) [])),(8,.p (.int l.length)),(9,.p (.int ij.1)),(10,.p (.int ij.2))]) (λij=>ij.2-ij.1) (0,l.length) ⟨H,H,U hR⟩ (aB H) ?_;rintro⟨i,j⟩ ⟨h1,h2,h3⟩;simp only at h1 h2 h3;by_cases c1:i<j
 .obtain⟨h,hh⟩:=mH ((i+j)/2);have w0:IntKind.i64.wrap ((i:Int)+(j:Int))=((i+j:Nat):Int):=by rw[aG];simp
  have hm:h<l.length:=O;have wm:IntKind.i64.wrap ((IntKind.u64.wrap ((i:Int)+(j:Int))).fdiv (2^min 1 IntKind.u64.bits))=(h:Int):=by
   have e1:IntKind.u64.wrap ((i:Int)+(j:Int))=((i+j:Nat):Int):=by exact C_ O O
   have e2:(2:Int)^min 1 IntKind.u64.bits=2:=rfl;rw[e1,e2,mP _ O,hh,aG];simp
  have hch:=hc h hm;have hs:zR c (j-i) i j=if c h<0 then zR c (j-(h+1)) (h+1) j else zR c (h-i) i h:=by
   obtain⟨d,hd⟩:∃d,j-i=d+1:=⟨j-i-1,O⟩;rw[hd,zR,ai c1,<-hh];split
   .exact xG c _ _ _ _ O O
   .exact xG c _ _ _ _ O O
  rw[hs]at h3;simp[c1,w0,wm,hm];refine cm (hg l[h] (bB hm)) ?_;rw[<-hch];by_cases c2:c h<0
  .rw[ai c2]at h3;have wh:IntKind.i64.wrap ((h:Int)+1)=(h:Int)+1:=aG;simp[c2,wh];exact⟨h+1,j,⟨O,h2,h3⟩,O,aB H⟩
  .rw[ah c2]at h3;simp[c2];exact⟨i,h,⟨O,O,h3⟩,O,aB H⟩
 .have hij:i=j:=O;subst hij;have hRi:R=i:=by rw[<-h3];simp[zR]
  subst hRi;by_cases c3:R<l.length
  .simp[c3];refine cm (hg l[R] (bB c3)) ?_;rw[<-hc R c3];simp[results154]
  .simp[c3,results154]
end Go.Av
namespace Go.cD
abbrev Key:=List UInt8
abbrev Hp:=List (Key×Int)
abbrev lt(a b:Key):Prop:=Op.bytesLess a b=true
instance(a b:Key):Decidable (lt a b):=inferInstanceAs (Decidable (_=true))
theorem UQ:∀(a b:List UInt8),Op.bytesLess b a=(!Op.bytesLess a b&&!a==b)
 |[],[]=>rfl
 |[],_::_=>rfl
 |_::_,[]=>rfl
 |x::a,y::b=>by
  have ih:=UQ a b;rcases Nat.lt_trichotomy x.toNat y.toNat with h|h|h
  .have h1:x<y:=h;have h2:¬y<x:=λk=>by have:y.toNat<x.toNat:=k;omega
   have h3:(y==x)=false:=by simp;intro e;subst e;omega
   simp[Op.bytesLess,h1,h2,h3]
  .have h1:x=y:=UInt8.toNat_inj.mp h;subst h1;have h2:¬x<x:=λk=>by have:x.toNat<x.toNat:=k;omega
   simp[Op.bytesLess,h2,ih]
  .have h1:y<x:=h;have h2:¬x<y:=λk=>by have:x.toNat<y.toNat:=k;omega
   have h3:(x==y)=false:=by simp;intro e;subst e;omega
   have h4:x≠y:=by intro e;subst e;omega
   simp[Op.bytesLess,h1,h2,h3,h4]
theorem nV:∀a:List UInt8,Op.bytesLess a a=false
 |[]=>rfl
 |x::a=>by
  have h2:¬x<x:=λk=>by have:x.toNat<x.toNat:=k;omega
  simp[Op.bytesLess,h2,nV a]
theorem Cy:∀{a b c:List UInt8},Op.bytesLess a b=true->Op.bytesLess b c=true->Op.bytesLess a c=true
 |_,[],_,h,_=>by simp[Op.bytesLess]at h
 |_,_::_,[],_,h=>by simp[Op.bytesLess]at h
 |[],_::_,_::_,_,_=>rfl
 |x::a,y::b,z::c,h,k=>by
  simp only[Op.bytesLess,Bool.or_eq_true,decide_eq_true_eq,Bool.and_eq_true,beq_iff_eq]at h k⊢;have lt_iff:∀p q:UInt8,p<q↔p.toNat<q.toNat:=λp q=>Iff.rfl;simp only[lt_iff]at h k⊢;rcases h with h|⟨h,h'⟩
  .rcases k with k|⟨k,k'⟩
   .exact .inl O
   .subst k;exact .inl h
  .subst h;rcases k with k|⟨k,k'⟩
   .exact .inl k
   .subst k;exact .inr ⟨rfl,Cy h' k'⟩
def lt_trans{a b c:Key}(h:lt a b)(k:lt b c):lt a c:=Cy h k
abbrev le(a b:Key):Prop:=¬lt b a
def place(l:Hp)(key:Key):Nat:=(l.takeWhile λx=>Op.bytesLess x.1 key).length
structure Nd where
 lf:Bool
 ks:List Key
 vs:List Int
 deriving Inhabited,DecidableEq
structure DA where
 nd:List Nd
 th:List Bool
 sv:Int
 fl:Int
def Ris(ks:List Key):Prop:=ks.Pairwise lt
def kOk(k:Key):Prop:=1<=k.length/\k.length<=100
def vOk(v:Int):Prop:=0<=v/\v<1099511627776
structure Right(n:Nd):Prop where
 ris:Ris n.ks
 keys:∀k∈n.ks,kOk k
 vals:∀v∈n.vs,vOk v
 len:n.ks.length<=4
 form:n.vs.length=n.ks.length+(if n.lf then 0 else 1)
 inner:n.lf=false->1<=n.ks.length
structure aqK(n:Nd):Prop where
 ris:Ris n.ks
 keys:∀k∈n.ks,kOk k
 vals:∀v∈n.vs,vOk v
 form:n.vs.length=n.ks.length+(if n.lf then 0 else 1)
def full(n:Nd):Prop:=(if n.lf then 2 else 1)<=n.ks.length
def Zh{ks:List Key}(h:Ris ks){i j:Nat}(hij:i<j)(hj:j<ks.length):lt ks[i] ks[j]:=List.pairwise_iff_getElem.1 h i j O hj hij
def ak5(lo:Key)(ks:List Key):Nat->Key
 |0=>lo
 |c+1=>ks.getD c []
def aoX(ks:List Key)(hi:Option Key)(c:Nat):Option Key:=match ks[c]? with|some k=>some k|none=>hi
structure ic(lo:Key)(ks:List Key)(hi:Option Key)(c d:Nat)(A B:Hp):Prop where
 A:∀x∈A,lt x.1 (ak5 lo ks c)
 B:∀x∈B,∃k,aoX ks hi d=some k/\le k x.1
def bh(n:Nd):Nat:=if n.lf then 0 else 1
def gj(n:Nd)(i:Nat)(key:Key)(us:List Int):Nd:=⟨n.lf,n.ks.take i++key::n.ks.drop i,n.vs.take i++us++n.vs.drop (if n.lf then i else i+1)⟩
def gV(n:Nd)(i:Nat):Nd:=⟨n.lf,n.ks.take i++n.ks.drop (i+1),n.vs.take (i+bh n)++n.vs.drop (i+bh n+1)⟩
def MG(n:Nd):Bool:=n.vs.length==n.ks.length+(if n.lf then 0 else 1)
def Ul(n:Nd):Nd:=⟨n.lf,n.ks.take (n.ks.length/2),n.vs.take (n.ks.length/2+bh n)⟩
def Um(n:Nd):Nd:=⟨n.lf,n.ks.drop (n.ks.length/2+bh n),n.vs.drop (n.ks.length/2+bh n)⟩
def acs(n:Nd):Key:=n.ks.getD (n.ks.length/2) []
def kE(n:Nd):Nd:=if MG n then Ul n else n
def oN(n:Nd):Nd:=if MG n then Um n else⟨n.lf,[],[]⟩
def ym(n:Nd):Key:=if MG n then acs n else[]
def xB(a:Nd)(key:Key)(b:Nd):Nd:=⟨a.lf,a.ks++((if a.lf then[]else[key])++b.ks),a.vs++b.vs⟩
def gq(n:Nd)(c:Nat)(p:Int):Nd:=⟨n.lf,n.ks,n.vs.set c p⟩
def DA.add(s:DA)(n:Nd):DA:=⟨s.nd++[n],s.th++[true],s.sv+1,s.fl⟩
def DA.save(s:DA)(n:Nd):DA×Int×Int:=if s.sv+1=s.fl then(⟨s.nd,s.th,s.sv+1,s.fl⟩,0,30)else(s.add n,(s.nd.length+1:Nat),0)
def DA.N(s:DA):Nat:=s.nd.length
def DA.Wf(s:DA):Prop:=s.th.length=s.nd.length
structure Ext(s s':DA):Prop where
 ex:∃X,s'.nd=s.nd++X/\s'.th=s.th++List.replicate X.length true
 fl:s'.fl=s.fl
 sv:s.sv<=s'.sv
def Ext.wf{s s':DA}(h:Ext s s')(w:s.Wf):s'.Wf:=by
 obtain⟨⟨X,h1,h2⟩,_⟩:=h;unfold DA.Wf at*;rw[h1,h2];simp[w]
def qx(s:DA)(n:Nd):DA×List Int×Key×Int:=if n.ks.length<=4 then((s.save n).1,[(s.save n).2.1],[],(s.save n).2.2)else if(s.save (kE n)).2.2=0 then(((s.save (kE n)).1.save (oN n)).1,[(s.save (kE n)).2.1,((s.save (kE n)).1.save (oN n)).2.1],ym n,((s.save (kE n)).1.save (oN n)).2.2)else((s.save (kE n)).1,[],[],(s.save (kE n)).2.2)
structure Step where
 n:Nd
 p:Int
 c:Nat
 deriving Inhabited
def eI(n:Nd)(key:Key):Nat:=(n.ks.takeWhile λk=>!Op.bytesLess key k).length
def b_(n:Nd)(key:Key):Nat:=(n.ks.takeWhile λk=>Op.bytesLess k key).length
def rY(n:Nd)(key:Key):Bool:=n.ks[b_ n key]?==some key
def YL{α:Type}(q:α->Bool)(l:List α):(∀x∈l.take (l.takeWhile q).length,q x=true)/\∀h:(l.takeWhile q).length<l.length,q l[(l.takeWhile q).length]=false:=by
 induction l with
 |nil=>simp
 |cons x l ih=>
  by_cases c:q x=true
  .simp only[List.takeWhile_cons,c,if_true,List.length_cons,List.take_succ_cons,List.mem_cons,forall_eq_or_imp,List.getElem_cons_succ,true_and];exact⟨ih.1,λh=>ih.2 O⟩
  .simp only[List.takeWhile_cons,c,Bool.false_eq_true,if_false,List.length_nil,List.take_zero,List.getElem_cons_zero];exact⟨λ_ h=>by simp at h,λ_=>by simpa using c⟩
def acA{α:Type}(q:α->Bool)(l:List α):(l.takeWhile q).length<=l.length:=(List.takeWhile_sublist _).length_le
def BN{n:Nd}{key:Key}(h:rY n key=true):∃hi:b_ n key<n.ks.length,n.ks[b_ n key]=key:=by
 unfold rY at h;rcases Nat.lt_or_ge (b_ n key) n.ks.length with hi|hi
 .rw[List.getElem?_eq_getElem hi]at h;exact⟨hi,U h⟩
 .rw[List.getElem?_eq_none hi]at h;cases h
def k7(n:Nd)(key:Key)(v:Int):Nd:=gj (if rY n key then gV n (b_ n key)else n) (b_ n key) key [v]
def wG(n:Nd)(key:Key):b_ n key<=n.ks.length:=acA _ _
def Vz{n:Nd}(hl:n.lf=true)(hf:n.vs.length=n.ks.length)(key:Key)(v:Int):k7 n key v=⟨true,n.ks.take (b_ n key)++key::n.ks.drop (if rY n key then b_ n key+1 else b_ n key),n.vs.take (b_ n key)++v::n.vs.drop (if rY n key then b_ n key+1 else b_ n key)⟩:=by
 have hle:=wG n key;unfold k7;by_cases hh:rY n key=true
 .simp only[hh,if_true,gj,gV,bh,hl,Nat.add_zero];have a1:(n.ks.take (b_ n key)++n.ks.drop (b_ n key+1)).take (b_ n key)=n.ks.take (b_ n key):=List.take_left' (by simp;omega);have a2:(n.ks.take (b_ n key)++n.ks.drop (b_ n key+1)).drop (b_ n key)=n.ks.drop (b_ n key+1):=List.drop_left' (by simp;omega);have b1:(n.vs.take (b_ n key)++n.vs.drop (b_ n key+1)).take (b_ n key)=n.vs.take (b_ n key):=List.take_left' (by simp;omega);have b2:(n.vs.take (b_ n key)++n.vs.drop (b_ n key+1)).drop (b_ n key)=n.vs.drop (b_ n key+1):=List.drop_left' (by simp;omega);rw[a1,a2,b1,b2];simp
 .have XR:rY n key=false:=U hh;simp[XR,gj,hl]
structure Up where
 s:DA
 old:List Int
 pg:List Int
 key:Key
 e:Int
def FJ(st:Step)(pg:List Int)(key:Key):Nd:=if pg.length=2 then gj st.n st.c key pg else gq st.n st.c (pg.getD 0 0)
def qD(st:Step)(u:Up):Up:=if u.e=0 then⟨(qx u.s (FJ st u.pg u.key)).1,u.old++[st.p],(qx u.s (FJ st u.pg u.key)).2.1,(qx u.s (FJ st u.pg u.key)).2.2.1,(qx u.s (FJ st u.pg u.key)).2.2.2⟩else u
def lS(s:DA)(n:Nd)(old:List Int)(key:Key)(v:Int):Up:=⟨(qx s (k7 n key v)).1,old,(qx s (k7 n key v)).2.1,(qx s (k7 n key v)).2.2.1,(qx s (k7 n key v)).2.2.2⟩
def ak2(s:DA)(l:List Step)(x:Step)(key:Key)(v:Int):Up:=l.foldr qD (lS s x.n [x.p] key v)
def tU(n:Nd)(key:Key):eI n key<=n.ks.length:=acA _ _
def Gp:List Key->Bool
 |[]=>true
 |[_]=>true
 |a::b::l=>Op.bytesLess a b&&Gp (b::l)
def rB(n:Nd):Bool:=Gp n.ks&&n.ks.all (λk=>decide (1<=k.length)&&decide (k.length<=100))&&n.vs.all (λv=>decide (0<=v)&&decide (v<1099511627776))&&decide (n.ks.length<=4)&&(n.vs.length==n.ks.length+(if n.lf then 0 else 1))&&(n.lf||decide (1<=n.ks.length))
theorem Cq:∀(ks:List Key),Gp ks=true↔Ris ks
 |[]=>by simp[Gp,Ris]
 |[_]=>by simp[Gp,Ris]
 |a::b::l=>by
  have ih:=Cq (b::l);simp only[Gp,Bool.and_eq_true,ih,Ris];constructor
  .rintro⟨h1,h2⟩;refine List.pairwise_cons.2 ⟨λx hx=>?_,h2⟩;rcases List.mem_cons.1 hx with rfl|hx
   .exact h1
   .exact lt_trans h1 ((List.pairwise_cons.1 h2).1 x hx)
  .intro h;have:=List.pairwise_cons.1 h;exact⟨this.1 b H,this.2⟩
def jv(n:Nd):rB n=true↔Right n:=by
 unfold rB;simp only[Bool.and_eq_true,Cq,List.all_eq_true,decide_eq_true_eq,beq_iff_eq,Bool.or_eq_true];constructor
 .rintro⟨⟨⟨⟨⟨h1,h2⟩,h3⟩,h4⟩,h5⟩,h6⟩;refine⟨h1,h2,h3,h4,h5,λh=>?_⟩;rw[h]at h6;simpa using h6
 .intro h;refine⟨⟨⟨⟨⟨h.ris,h.keys⟩,h.vals⟩,h.len⟩,h.form⟩,?_⟩;cases hl:n.lf with
  |true=>exact .inl rfl
  |false=>exact .inr (h.inner hl)
def jU:Nd:=⟨false,[],[]⟩
def Gn(n:Nd):Bool:=decide (n.ks.length<if n.lf then 2 else 1)
def Kj(c:Nat):Nat:=if c=0 then 1 else c-1
def r_(c:Nat):Nat:=if c=0 then 0 else c-1
def FK{α:Type}{l:List α}{i j:Nat}{x:α}(h:x∈l.take i++l.drop j):x∈l:=by
 rcases List.mem_append.1 h with h|h
 .exact List.mem_of_mem_take h
 .exact List.mem_of_mem_drop h
def BM(x:Step)(key:Key):Int×Bool:=if rY x.n key then(x.n.vs.getD (b_ x.n key) 0,true)else(0,false)
def M8(cy:Key)(most:Int):Hp->Hp->Hp
 |[],out=>out
 |(k,v)::l,out=>M8 cy most l (if !Op.bytesLess k cy&&decide ((out.length:Int)<most)then out++[(k,v)]else out)
def aq8(cy:Key)(its:Hp):Hp:=its.filter λx=>!Op.bytesLess x.1 cy
structure Grow(s s':DA):Prop where
 nd:∃X,s'.nd=s.nd++X
 fl:s'.fl=s.fl
 sv:s.sv<=s'.sv
def rV(key:Key)(v:Int):Bool:=decide (1<=key.length)&&decide (key.length<=100)&&decide (0<=v)&&decide (v<1099511627776)
def yo:Nd:=⟨true,[],[]⟩
def qE(s:DA)(l:List Step)(key:Key)(v:Int):Up:=match l.getLast? with
 |none=>lS s yo [] key v
 |some x=>ak2 s l.dropLast x key v
def uC(l:List Step)(key:Key):Int×Bool:=match l.getLast? with
 |none=>(0,false)
 |some x=>BM x key
structure Ck where
 seen:List Int
 dep:Int
def aoV(n:Nd)(lo:Key)(hi:Option Key):Bool:=n.ks.all λk=>!Op.bytesLess k lo&&(match hi with|some h=>Op.bytesLess k h|none=>true)
def aoW(d:Nat)(n:Nd):Nat:=if d=0 then 1 else if n.lf then 2 else 1
def acH(c:Ck)(dP:Int):Ck:=⟨c.seen++[dP],c.dep⟩
def DA.count(s:DA):Nat:=s.th.count true
structure dG(σ:Type) where
 ld:σ->Int->σ×Nd×Int
 sv:σ->Nd->σ×Int×Int
 dr:σ->Int->σ
structure Aw(σ:Type) where
 s:σ
 old:List Int
 pg:List Int
 key:Key
 e:Int
structure jX(σ:Type) where
 s:σ
 root:Int
 was:Int
 had:Bool
 e:Int
structure vV(σ:Type) where
 s:σ
 old:List Int
 n:Nd
 e:Int
namespace dG
variable{σ:Type}(I:dG σ)
def tl(s:σ)(p:Int):σ×Nd×Int:=if(I.ld s p).2.2=0 then(if rB (I.ld s p).2.1=true then((I.ld s p).1,(I.ld s p).2.1,0)else((I.ld s p).1,jU,10))else((I.ld s p).1,jU,(I.ld s p).2.2)
def way(key:Key):Nat->σ->Int->List Step->σ×List Step×Int
 |0,s,dP,out=>if dP=0 then(s,out,0)else(s,[],10)
 |f+1,s,dP,out=>if dP=0 then(s,out,0)else
  if(I.tl s dP).2.2=0 then
   if(I.tl s dP).2.1.lf=true then((I.tl s dP).1,out++[⟨(I.tl s dP).2.1,dP,eI (I.tl s dP).2.1 key⟩],0)
   else way key f (I.tl s dP).1 ((I.tl s dP).2.1.vs.getD (eI (I.tl s dP).2.1 key) 0) (out++[⟨(I.tl s dP).2.1,dP,eI (I.tl s dP).2.1 key⟩])
  else((I.tl s dP).1,[],(I.tl s dP).2.2)
def foldM(g:σ->Int->Hp->σ×Hp×Int)(most:Int):List Int->σ->Hp->σ×Hp×Int
 |[],s,a=>(s,a,0)
 |p::l,s,a=>if(a.length:Int)<most then(if(g s p a).2.2=0 then foldM g most l (g s p a).1 (g s p a).2.1 else((g s p a).1,[],(g s p a).2.2))else(s,a,0)
def aeJ(cy:Key)(most:Int):Nat->σ->Int->Hp->σ×Hp×Int
 |0,s,_,_=>(s,[],10)
 |f+1,s,dP,out=>if(I.tl s dP).2.2=0 then
  if(I.tl s dP).2.1.lf=true then((I.tl s dP).1,M8 cy most ((I.tl s dP).2.1.ks.zip (I.tl s dP).2.1.vs) out,0)
  else foldM (aeJ cy most f) most ((I.tl s dP).2.1.vs.drop (eI (I.tl s dP).2.1 cy)) (I.tl s dP).1 out else((I.tl s dP).1,[],(I.tl s dP).2.2)
def acr(g:σ->Int->Key->Option Key->Ck->σ×Ck×Int):Key->List Key->Option Key->List Int->σ->Ck->σ×Ck×Int
 |lo,k::ks,hi,v::vs,s,a=>if(g s v lo (some k) a).2.2=0 then acr g k ks hi vs (g s v lo (some k) a).1 (g s v lo (some k) a).2.1 else g s v lo (some k) a
 |lo,[],hi,v::_,s,a=>g s v lo hi a
 |_,_,_,[],s,a=>(s,a,0)
def put(s:σ)(n:Nd):σ×List Int×Key×Int:=if n.ks.length<=4 then((I.sv s n).1,[(I.sv s n).2.1],[],(I.sv s n).2.2)else if(I.sv s (kE n)).2.2=0 then((I.sv (I.sv s (kE n)).1 (oN n)).1,[(I.sv s (kE n)).2.1,(I.sv (I.sv s (kE n)).1 (oN n)).2.1],ym n,(I.sv (I.sv s (kE n)).1 (oN n)).2.2)else((I.sv s (kE n)).1,[],[],(I.sv s (kE n)).2.2)
def qD(st:Step)(u:Aw σ):Aw σ:=if u.e=0 then⟨(I.put u.s (FJ st u.pg u.key)).1,u.old++[st.p],(I.put u.s (FJ st u.pg u.key)).2.1,(I.put u.s (FJ st u.pg u.key)).2.2.1,(I.put u.s (FJ st u.pg u.key)).2.2.2⟩else u
def lS(s:σ)(n:Nd)(old:List Int)(key:Key)(v:Int):Aw σ:=⟨(I.put s (k7 n key v)).1,old,(I.put s (k7 n key v)).2.1,(I.put s (k7 n key v)).2.2.1,(I.put s (k7 n key v)).2.2.2⟩
def gB(s:σ)(l:List Int):σ:=l.foldl I.dr s
def gZ(root:Int)(was:Int)(had:Bool)(u:Aw σ):jX σ:=if u.e=0 then
 if u.pg.length=2 then
  if(I.sv u.s ⟨false,[u.key],u.pg⟩).2.2=0 then⟨I.gB (I.sv u.s ⟨false,[u.key],u.pg⟩).1 u.old,(I.sv u.s ⟨false,[u.key],u.pg⟩).2.1,was,had,0⟩
  else⟨(I.sv u.s ⟨false,[u.key],u.pg⟩).1,root,0,false,(I.sv u.s ⟨false,[u.key],u.pg⟩).2.2⟩
 else⟨I.gB u.s u.old,u.pg.getD 0 0,was,had,0⟩else⟨u.s,root,0,false,u.e⟩
def qE(s:σ)(l:List Step)(key:Key)(v:Int):Aw σ:=match l.getLast? with
 |none=>I.lS s yo [] key v
 |some x=>l.dropLast.foldr I.qD (I.lS s x.n [x.p] key v)
def jm(s:σ)(root:Int)(key:Key)(v:Int):jX σ:=if rV key v=true then
 if(I.way key 40 s root []).2.2=0 then I.gZ root (uC (I.way key 40 s root []).2.1 key).1 (uC (I.way key 40 s root []).2.1 key).2 (I.qE (I.way key 40 s root []).1 (I.way key 40 s root []).2.1 key v)
 else⟨(I.way key 40 s root []).1,root,0,false,(I.way key 40 s root []).2.2⟩else⟨s,root,0,false,2⟩
end dG
end Go.cD
namespace Go.aL
open Go.Av
open Go.cD (Nd rB jU dG)
structure Mp where
 n:Nat
 F:List Go.Av.Ext
 R:List Go.Av.Ext
 W:List Go.Av.Ext
structure mh(m:Mp):Prop where
 n:m.n<=65536
 F:Ok m.n m.F
 R:Ok m.n m.R
 W:Ok m.n m.W
 fr:∀s,mem m.F s->¬mem m.R s
 fw:∀s,mem m.F s->¬mem m.W s
def Mp.run(m:Mp)(k:Int):Nat:=(m.F.takeWhile λe=>!decide (k<=(e.2:Int))).length
def Mp.take(m:Mp)(k:Int):Mp×(Int×Int)×Bool:=if 1<=k/\m.run k<m.F.length then
 ({m with F:=jo m.F ((m.F.getD (m.run k) (0,0)).1,k.toNat),R:=gu m.R ((m.F.getD (m.run k) (0,0)).1,k.toNat)},(((m.F.getD (m.run k) (0,0)).1:Int),k),true)else(m,(0,0),false)
def Mp.hold(m:Mp)(es:eL):Mp×Bool:=({m with F:=if kg m.n m.F es=true then(es.map toE).foldl jo m.F else m.F},kg m.n m.F es)
def Mp.gG(m:Mp)(es:eL):Mp:={m with W:=if fH m.n m.F m.W es=true then(es.map toE).foldl gu m.W else m.W}
def Mp.commit(m:Mp):Mp:={m with F:=m.W.foldl gu m.F,R:=[],W:=[]}
def Mp.new(n:Nat):Mp:=⟨n,[(0,n)],[],[]⟩
structure Lg where
 kind:Int
 key:aF
 sure:Bool
structure St where
 D:bt
 J:Jr
 jn:Int
 pn:Int
 root:Int
 sl:Mp
 rm:Mp
 ix:List Kn
 ord:Int
 dR:List Lg
 sure:Bool
def St.free(s:St):St:={s with sl:=s.sl.commit,rm:=s.rm.commit,sure:=true,dR:=s.dR.map λl=>{l with sure:=true}}
def St.sync(s:St):St×Int:=(if(s.J.settle s.D).2.2=0 then St.free {s with J:=(s.J.settle s.D).1,D:=(s.J.settle s.D).2.1}else{s with J:=(s.J.settle s.D).1,D:=(s.J.settle s.D).2.1},(s.J.settle s.D).2.2)
def St.commit(s:St)(root count:Int):St×Bool×Int:=({s with J:=(s.J.commit s.D [(0,pS root count)]).1,D:=(s.J.commit s.D [(0,pS root count)]).2.1,root:=if(s.J.commit s.D [(0,pS root count)]).2.2.1=true then root else s.root,sure:=if(s.J.commit s.D [(0,pS root count)]).2.2.1=true then false else s.sure},(s.J.commit s.D [(0,pS root count)]).2.2)
def St.wrote(s:St)(kind e:Int)(key:aF):St:=if e=0 then St.free {s with dR:=s.dR++[⟨kind,key,false⟩]}else{s with dR:=s.dR++[⟨kind,key,false⟩]}
def vY(b:aF):Nd×Int:=if Bv (jt (b,false) 1).1 (x8 (jt (jt (b,false) 1).2 1).1 (jt (jt (b,false) 1).2 1).2).1 (RF (jt (b,false) 1).1 (jt (jt (b,false) 1).2 1).1 (x8 (jt (jt (b,false) 1).2 1).1 (jt (jt (b,false) 1).2 1).2).2).1 (RF (jt (b,false) 1).1 (jt (jt (b,false) 1).2 1).1 (x8 (jt (jt (b,false) 1).2 1).1 (jt (jt (b,false) 1).2 1).2).2).2=true then(⟨(jt (b,false) 1).1==1,(x8 (jt (jt (b,false) 1).2 1).1 (jt (jt (b,false) 1).2 1).2).1,(RF (jt (b,false) 1).1 (jt (jt (b,false) 1).2 1).1 (x8 (jt (jt (b,false) 1).2 1).1 (jt (jt (b,false) 1).2 1).2).2).1⟩,0)else(jU,10)
structure Cs where
 s:St
 saved:List Int
 old:List Int
def Cs.dev(c:Cs)(D:bt):Cs:={c with s:={c.s with D:=D}}
def x7(jn p:Int):Int:=1+jn+p*8
def Cs.ld(c:Cs)(p:Int):Cs×Nd×Int:=if p<1\/c.s.pn<p then(c,jU,33)else if(iN c.s.D (x7 c.s.jn (p-1))).2.2.2=0 then
 (if(vY (iN c.s.D (x7 c.s.jn (p-1))).2.2.1).2=0 then(c.dev (iN c.s.D (x7 c.s.jn (p-1))).1,vY (iN c.s.D (x7 c.s.jn (p-1))).2.2.1)
 else(c.dev (iN c.s.D (x7 c.s.jn (p-1))).1,jU,33))else(c.dev (iN c.s.D (x7 c.s.jn (p-1))).1,jU,(iN c.s.D (x7 c.s.jn (p-1))).2.2.2)
def Cs.sv(c:Cs)(n:Nd):Cs×Int×Int:=if rB n=true then
 (if(c.s.sl.take 1).2.2=true then
  ({c with s:={c.s with sl:=(c.s.sl.take 1).1,D:=(lK c.s.D (x7 c.s.jn (c.s.sl.take 1).2.1.1) 1 (nh n.lf n.ks n.vs)).1},saved:=c.saved++[(c.s.sl.take 1).2.1.1]},(c.s.sl.take 1).2.1.1+1,(lK c.s.D (x7 c.s.jn (c.s.sl.take 1).2.1.1) 1 (nh n.lf n.ks n.vs)).2)
 else(c,0,30))else(c,0,10)
def Cs.dr(c:Cs)(p:Int):Cs:={c with old:=c.old++[IntKind.i64.wrap (p-1)]}
def bM:dG Cs:=⟨Cs.ld,Cs.sv,Cs.dr⟩
def cn(m:Mp)(l:List Int):Mp:=l.foldl (λm p=>m.gG [(p,1)]) m
end Go.aL
namespace Go.Av
open Go.Proofs Go.aL
def nU(l:List Kn):List PC:=l.flatMap λk=>[PC.str k.key,.int k.order,.int k.place,.sl (k.body.map dO)]
def aJ(l:List Kn):Ob:=⟨159,4,(nU l).map .p⟩
def Kk(l:List Lg):List PC:=l.flatMap λx=>[PC.int x.kind,.str x.key,.bool x.sure]
def aP(l:List Lg):Ob:=⟨198,3,(Kk l).map .p⟩
def aj(b u:Nat)(D:bt):Ob:=⟨170,6,[.p (.int D.n),.p (.sl (D.bad.map PC.int)),.p (.int D.left),.view (b+1) 0 D.kept.length 64 none,.view (b+2) 0 D.now.length 64 none,.own u (D.q.map ZD)]⟩
def aM(b u:Nat)(s:St):Ob:=⟨151,11,[.obj b 0,.p (.int s.jn),.p (.int s.pn),.obj (b+3) 0,.p (.int s.root),.obj (b+4) 0,.obj (b+5) 0,.view (u+8) 0 s.ix.length 4 none,.p (.int s.ord),.view (u+9) 0 s.dR.length 3 none,.p (.bool s.sure)]⟩
def aR(u:Nat)(m:Mp):Ob:=iy m.n u (u+1) (u+2) m.F m.R m.W
def aH(b u:Nat)(s:St):List (Nat×Ob):=[(b,aj b u s.D),(b+1,ak s.D.kept),(b+2,ak s.D.now),(b+3,iB b (u+1) s.J),(b+4,aR (u+2) s.sl),(b+5,aR (u+5) s.rm),(b+6,aM b u s),(u+2,cI s.sl.F),(u+3,cI s.sl.R),(u+4,cI s.sl.W),(u+5,cI s.rm.F),(u+6,cI s.rm.R),(u+7,cI s.rm.W),(u+8,aJ s.ix),(u+9,aP s.dR)]
@[reducible]def cH(u:Nat):List (Nat×TypeId×Nat):=[(u,174,65),(u+1,364,2)]
def pJ(b u:Nat)(c:Cs):Ob:=⟨278,3,[.obj (b+6) 0,.own (u+10) (c.saved.map PC.int),.own (u+11) (c.old.map PC.int)]⟩
def nj(b u:Nat)(c:Cs):List (Nat×Ob):=(b+7,pJ b u c)::aH b u c.s
@[reducible]def nJ(u:Nat):List (Nat×TypeId×Nat):=[(u,174,65),(u+1,364,2),(u+10,3,1),(u+11,3,1)]
def aap(b u c v:Nat)(s:St)(ρ:Nat->Nat)(h:∀i,i<7->ρ (b+i)=c+i)(h':∀j,j<10->ρ (u+j)=v+j):fD ρ (aH b u s)=aH c v s:=by
 have e0:ρ b=c:=h 0 O;have e1:=h 1 O;have e2:=h 2 O;have e3:=h 3 O;have e4:=h 4 O;have e5:=h 5 O;have e6:=h 6 O;have f0:ρ u=v:=h' 0 O;have f1:=h' 1 O;have f2:=h' 2 O;have f3:=h' 3 O;have f4:=h' 4 O;have f5:=h' 5 O;have f6:=h' 6 O;have f7:=h' 7 O;have f8:=h' 8 O;have f9:=h' 9 O;simp[aH,fD,aj,ak,iB,aR,aM,aJ,aP,e0,e1,e2,e3,e4,e5,e6,f0,f1,f2,f3,f4,f5,f6,f7,f8,f9,ow]
def aaq(b u m:Nat)(s:St)(h:b+7<=m)(h':u+10<=m):∀p∈aH b u s,AV.ja.iA m p.2.xs=true:=by
 intro p hp;simp[aH]at hp;rcases hp with rfl|rfl|rfl|rfl|rfl|rfl|rfl|rfl|rfl|rfl|rfl|rfl|rfl|rfl|rfl<;>simp[aj,ak,aR,aM,aJ,aP]<;>omega
def aar(b u:Nat)(s:St):∀p∈aH b u s,(b<=p.1/\p.1<b+7)\/(u<=p.1/\p.1<u+10):=by
 intro p hp;simp[aH]at hp;rcases hp with rfl|rfl|rfl|rfl|rfl|rfl|rfl|rfl|rfl|rfl|rfl|rfl|rfl|rfl|rfl<;>simp<;>omega
def aas(b u c v:Nat)(s:Cs)(ρ:Nat->Nat)(h:∀i,i<8->ρ (b+i)=c+i)(h':∀j,j<12->ρ (u+j)=v+j):fD ρ (nj b u s)=nj c v s:=by
 have e6:=h 6 O;have e7:=h 7 O;have f1:=h' 10 O;have f2:=h' 11 O;rw[nj,fD,aap b u c v s.s ρ (λi hi=>h i O) (λi hi=>h' i O)];simp[nj,pJ,e6,e7,f1,f2]
def afQ(b u:Nat)(c:Cs)(h:b+8<=u\/u+12<=b):((nj b u c).map (·.1)).Nodup:=by
 simp[nj,aH];omega
def iY:LO 8 12 Cs:=⟨nj,λb u s p hp=>by
 rcases fF.1 hp with rfl|hp
 .left;simp
 .have:=aar b u s.s p hp;omega,afQ,aas,λb u s m p h h' hp=>by
 rcases fF.1 hp with rfl|hp
 .simp[pJ];omega
 .exact aaq b u m s.s O O p hp⟩
def pR{P:Program}{tb:Tb}{kt:AV->Tb->Prop}{gf:FuncId}{ys l:List AV}{ts ts':Tb}{r:AV}(rn:List Nat)(h:dm P gf ys ts r ts')(hk:kt (r.cp (fh rn tb.nx)) (tb.merge (ts.cp (fh rn tb.nx)) (ts'.cp (fh rn tb.nx))))(hs:rn.length=ts.nx/\ts.nx<=ts'.nx/\rn.Nodup/\∀j∈rn,j<tb.nx:=by simp)(hl:toAll l (AV.cp.eu (fh rn tb.nx) ys):=by simp)(hb:aA tb.bx (fD (fh rn tb.nx) ts.bx):=by simp[aA,aH,aj,ak,aR,aM,aJ,aP])(hr:aA tb.rw (jj (fh rn tb.nx) ts.rw):=by simp[aA]):jN P gf [] l tb kt:=aD rn h hs hl hb hr hk
end Go.Av
namespace Go.aL
open Go.Av
def mh.commit{m:Mp}(h:mh m):mh m.commit:=by
 have hp:=pX h.F (es:=m.W) (λe he=>⟨h.W.nr.pos e he,h.W.top e he,λs hs hm=>h.fw s hm ⟨e,he,hs⟩⟩) (T7 h.W.nr) m.W.length (aX _);rw[eH]at hp;exact⟨h.n,hp.1,pz,pz,λs _ hm=>by simp[Mp.commit]at hm,λs _ hm=>by simp[Mp.commit]at hm⟩
end Go.aL
namespace Go.Av
open Go.Proofs Go.Proofs.Tryz Go.aL
def sZ(x:Lg)(L:List Lg):Kk (x::L)=PC.int x.kind::PC.str x.key::PC.bool x.sure::Kk L:=rfl
@[simp]def am5(L:List Lg):(Kk L).length=L.length*3:=by
 induction L with
 |nil=>rfl
 |cons x L ih=>rw[sZ];simp[ih];omega
def N6(c:Bool):∀{L:List Lg} {k:Nat} (h:k<L.length),(Kk L).take (k*3+2)++PC.bool c::(Kk L).drop (k*3+2+1)=Kk (L.set k {L[k]with sure:=c})
 |[],k,h=>by simp at h
 |x::L,0,_=>by simp[sZ]
 |x::L,k+1,h=>by
  have ih:=N6 c (L:=L) (k:=k) (U h);rw[List.set_cons_succ,List.getElem_cons_succ,sZ,sZ,show(k+1)*3+2=k*3+2+1+1+1 by omega];simp only[jH,gJ,kP,ih]
def nM:List Lg->Nat->List Lg
 |x::L,k+1=>{x with sure:=true}::nM L k
 |L,_=>L
@[simp]def afL(L:List Lg):nM L 0=L:=by cases L<;>rfl
@[simp]theorem Qw:∀(L:List Lg) (k:Nat),(nM L k).length=L.length
 |[],_=>by simp[nM]
 |x::L,0=>H
 |x::L,k+1=>by simp[nM,Qw L k]
def C0:∀{L:List Lg} {k:Nat} (h:k<L.length),nM L (k+1)=(nM L k).set k {(nM L k)[k]'(U h)with sure:=true}
 |[],k,h=>by simp at h
 |x::L,0,_=>by simp[nM]
 |x::L,k+1,h=>by
  have ih:=C0 (L:=L) (k:=k) (U h);show{x with sure:=true}::nM L (k+1)=({x with sure:=true}::nM L k).set (k+1) {({x with sure:=true}::nM L k)[k+1]'(U h)with sure:=true}
  rw[List.set_cons_succ,ih];rfl
def EL:∀(L:List Lg),nM L L.length=L.map λl=>{l with sure:=true}
 |[]=>rfl
 |x::L=>by simp[nM,EL L]
def N7(s:St)(hs:mh s.sl)(hr:mh s.rm)(hl:s.dR.length<=1000000000):bN 101 [.obj 6 0] ⟨aH 0 7 s,cH 7,17⟩ (.agg true []) ⟨aH 0 17 s.free,cH 17,27⟩:=by
 have h1:=lX 4 9 10 11 17 s.sl.n (by constructor<;>omega) hs.n s.sl.F s.sl.R s.sl.W hs.F hs.W hs.fw;have h2:=lX 5 12 13 14 20 s.rm.n (by constructor<;>omega) hr.n s.rm.F s.rm.R s.rm.W hr.F hr.W hr.fw;refine aC [] func101 rfl ?_;simp[aH,aj,ak,aR,aM,aJ,aP];refine aN h1 H (by simp[aA]) (by simp[aA]) rfl ?_;simp;refine aN h2 H (by simp[aA]) (by simp[aA]) rfl ?_;simp;obtain⟨sl',oO⟩:=lT (s.sl.commit);obtain⟨rm',qo⟩:=lT (s.rm.commit);refine aS (λk:Nat=>k<=s.dR.length) (λk=>[(0,.obj 6 0),(20,.p (.int s.dR.length)),(21,.p (.int k))]) (λk=>⟨[(0,aj 0 7 s.D),(1,ak s.D.kept),(2,ak s.D.now),(3,iB 0 8 s.J),(4,aR 17 s.sl.commit),(5,aR 20 s.rm.commit),(6,aM 0 7 {s with sure:=true}),(17,cI s.sl.commit.F),(18,cI []),(19,cI []),(20,cI s.rm.commit.F),(21,cI []),(22,cI []),(15,aJ s.ix),(16,aP (nM s.dR k))],cH 7,23⟩) (λk=>s.dR.length-k) 0 H _ (AS.le_refl _ _) (aB (by simp[aj,ak,aR,aM,aJ,aP,Mp.commit])) ?_;intro k hk;by_cases ck:k<s.dR.length
 .have wk:=ju k;have iG:=N6 true (L:=nM s.dR k) (k:=k) (U ck);rw[<-C0 ck]at iG;have acC:=dg (List.map AV.p) iG;rw[jB,fG,dB,jG]at acC;simp[ck,wk,aj,ak,aR,aM,aJ,aP];exact⟨O,k+1,O,O,aB (by simp[acC])⟩
 .obtain rfl:k=s.dR.length:=O;simp[-az,aj,ak,aR,aM,aJ,aP,results101];exact⟨[(17,7),(18,8),(19,17),(20,18),(21,19),(22,20),(23,21),(24,22),(25,15),(26,16)],by simp[St.free,Mp.commit,EL]⟩
end Go.Av
namespace Go.aL
open Go.Av
structure KH(k:Kn):Prop where
 key:k.key.length<=1000
 order:0<=k.order/\k.order<=1152921504606846976
 place:0<=k.place/\k.place<=1000000000
 bl:k.body.length<=8
 bo:∀e∈k.body,0<=e.1/\e.1<=65536/\1<=e.2/\e.2<=65536
structure JB(t:Nat)(jn:Int)(J:Jr):Prop where
 ok:J_ J
 ho:∀p∈J.di,-9223372036854775808<=p.1/\p.1<=9223372036854775807
 xS:J.di.length<=t
 eM:J.at'<=1000000+t/\J.base<=1000000+t
 cy:J.cy=1/\J.n=jn
structure gR(t:Nat)(s:St):Prop where
 D:fJ (t*t) s.D
 J:JB t s.jn s.J
 jn:5<=s.jn/\s.jn<=4096
 pn:30<=s.pn/\s.pn<=4096
 sz:cY s.jn s.pn+16<=s.D.kept.length
 sl:mh s.sl
 rm:mh s.rm
 MS:(s.sl.n:Int)=s.pn
 OX:(s.rm.n:Int)=s.D.kept.length-cY s.jn s.pn
 dR:s.dR.length<=t
 RQ:s.ix.length<=1000000
 ix:∀k∈s.ix,KH k
 RJ:s.ix.Pairwise λa b=>Op.bytesLess a.key b.key=true
 root:-9223372036854775808<=s.root/\s.root<=9223372036854775807
 ord:0<=s.ord/\s.ord<=1152921504606846976
def sq8(t:Nat):(t+8)*(t+8)=t*t+16*t+64:=by rw[oz,yu,yu];omega
def acF{a b:Nat}(h:a<=b):a*a<=b*b:=Nat.mul_le_mul h h
def Uc{t:Nat}(h:t<=30000):t*t<=900000000:=cT (acF h) (by decide)
def dI(D:bt):D.flush.1.kept.length=D.kept.length/\D.flush.1.now=D.now:=by
 unfold bt.flush;split
 .unfold bt.next;split<;>simp[bt.settle,lq]
 .unfold bt.next;split<;>simp
def fA(D:bt)(a:Int)(l:List dY):(D.write a l).1.kept=D.kept:=by
 unfold bt.write;split
 .split
  .rw[(Cz _ _ _).1];unfold bt.next;split<;>rfl
  .unfold bt.next;split<;>rfl
 .rfl
theorem nX:∀(l:List wB) (D:bt),(ko l D).1.kept=D.kept
 |[],_=>rfl
 |p::l,D=>by
  unfold ko;split
  .rw[nX l,fA]
  .rw[fA]
def GX{b:Nat}{D:bt}(h:fJ b D):D.flush.2=0->fJ 0 D.flush.1:=by
 unfold bt.flush;split
 .intro _;exact h.next.settle
 .rename_i hn;intro h0;exact absurd h0 hn
def Jb{b:Nat}{D:bt}(h:fJ b D)(J:Jr):fJ (b+J.di.length+2) (J.settle D).2.1:=by
 have f1:=h.flush;have key:fJ (b+J.di.length+2) (bg (kJ J) D).1:=by
  unfold kJ;simp only[bg];by_cases c1:D.flush.2=0
  .rw[ai c1];have q1:=GX h c1;by_cases c2:(ko J.di D.flush.1).2=0
   .rw[ai c2];have q2:=q1.home J.di;have f3:=q2.flush;by_cases c3:(ko J.di D.flush.1).1.flush.2=0
    .rw[ai c3];have q3:=GX q2 c3;by_cases c4:(J.tell (ko J.di D.flush.1).1.flush.1).2=0
     .rw[ai c4];have q4:=q3.write (J.cy+J.oX.number%2) [fW J.oX];have f5:=q4.flush;by_cases c5:(J.tell (ko J.di D.flush.1).1.flush.1).1.flush.2=0
      .rw[ai c5];exact f5.up (by first|(simp;done)|(simp;omega))
      .rw[ah c5];exact f5.up (by first|(simp;done)|(simp;omega))
     .rw[ah c4];exact(q3.write _ _).up (by first|(simp;done)|(simp;omega))
    .rw[ah c3];exact f3.up O
   .rw[ah c2];exact(q1.home _).up O
  .rw[ah c1];exact f1.up O
 unfold Jr.settle;split
 .exact h.up O
 .split<;>exact key
def z8(J:Jr)(D:bt):(J.settle D).2.1.kept.length=D.kept.length:=by
 have key:(bg (kJ J) D).1.kept.length=D.kept.length:=by
  unfold kJ;simp only[bg];split
  .split
   .split
    .split
     .split
      .rw[(dI _).1,Jr.tell,fA,(dI _).1,nX,(dI _).1]
      .rw[(dI _).1,Jr.tell,fA,(dI _).1,nX,(dI _).1]
     .rw[Jr.tell,fA,(dI _).1,nX,(dI _).1]
    .rw[(dI _).1,nX,(dI _).1]
   .rw[nX,(dI _).1]
  .rw[(dI _).1]
 unfold Jr.settle;split
 .rfl
 .split<;>exact key
def JB.up{t t':Nat}{jn:Int}{J:Jr}(h:JB t jn J)(ht:t<=t'):JB t' jn J:=⟨h.ok,h.ho,cT h.xS ht,by have:=h.eM;omega,h.cy⟩
theorem JB.settle{t:Nat}{jn:Int}{J:Jr}(h:JB t jn J)(D:bt):JB t jn (J.settle D).1:=by
 obtain⟨k1,k2,k3,k4⟩:=Go.Av.rA J D;have hn:(J.settle D).1.n=J.n:=by unfold Jr.settle;split;rfl;split<;>rfl
 have hh:=h.eM;refine⟨Ey h.ok D,λp hp=>h.ho p ?_,cT k4 h.xS,⟨by rw[k3];omega,?_⟩,⟨k2.trans h.cy.1,hn.trans h.cy.2⟩⟩
 .unfold Jr.settle at hp;split at hp
  .exact hp
  .split at hp
   .simp[Jr.settled]at hp
   .exact hp
 .unfold Jr.settle;split
  .simp only;omega
  .split
   .simp only[Jr.settled];omega
   .simp only;omega
def gR.up{t t':Nat}{s:St}(h:gR t s)(ht:t<=t'):gR t' s:={h with D:=h.D.up (acF ht),J:=h.J.up ht,dR:=cT h.dR ht}
def gR.settled{t:Nat}{s:St}(h:gR t s):gR (t+8) {s with J:=(s.J.settle s.D).1,D:=(s.J.settle s.D).2.1}:=by
 have hk:=z8 s.J s.D;exact{h with D:=(Jb h.D s.J).up (by have:=h.J.xS;rw[sq8];omega),J:=(h.J.settle s.D).up O,sz:=by simp only[hk];exact h.sz,OX:=by simp only[hk];exact h.OX,dR:=cT h.dR O}
def gR.acG{t:Nat}{s:St}(h:gR t s):gR t s.free:={h with sl:=h.sl.commit,rm:=h.rm.commit,dR:=by simp[St.free];exact h.dR}
def gR.sync{t:Nat}{s:St}(h:gR t s):gR (t+8) s.sync.1:=by
 unfold St.sync;split
 .exact h.settled.acG
 .exact h.settled
end Go.aL
namespace Go.Av
open Go.Proofs Go.Proofs.Tryz Go.aL
def afZ(t:Nat)(s:St)(h:gR t s)(ht:t<=30000):bN 31 [.obj 6 0] ⟨aH 0 7 s,cH 7,17⟩ (.p (.int s.sync.2)) ⟨aH 0 17 s.sync.1,cH 17,27⟩:=by
 have hc:=Eh s.D (t*t) h.D s.J h.J.ok (by have:=Uc ht;omega) h.J.ho;have hS:=h.settled;have hf:=N7 {s with J:=(s.J.settle s.D).1,D:=(s.J.settle s.D).2.1} hS.sl hS.rm (by have:=hS.dR;omega);unfold St.sync;obtain⟨R,hR⟩:=lT (s.J.settle s.D);obtain⟨J',D',e⟩:=R;rw[hR]at hc hf⊢;simp only at hc hf⊢;refine aC [_] func31 rfl ?_;simp[aH,aj,ak,aR,aM,aJ,aP];refine wu [0,1,2,7,3,8] hc ?_;by_cases c:e=0
 .subst c;simp[ak];refine pR [0,1,2,3,4,5,6,17,18,9,10,11,12,13,14,15,16] hf ?_;simp[-az,aH,aj,ak,aR,aM,aJ,aP,results31];exact⟨[(17,19),(18,20),(19,21),(20,22),(21,23),(22,24),(23,25),(24,26),(25,27),(26,28)],H⟩
 .have c':(e==0)=false:=U c;simp[-az,ak,c,c',results31];exact⟨[(19,9),(20,10),(21,11),(22,12),(23,13),(24,14),(25,15),(26,16)],H⟩
end Go.Av
namespace Go.aL
open Go.Av
def Xl(cy:Int)(L:List dY)(a:Int)(D:bt):(bg (jd cy L a) D).1.kept.length=D.kept.length:=by
 unfold jd;simp only[bg];split
 .split
  .split
   .rw[fA,(dI _).1,fA]
   .rw[fA,(dI _).1,fA]
  .rw[(dI _).1,fA]
 .rw[fA]
def amR{b:Nat}{D:bt}(h:fJ b D)(cy:Int)(L:List dY)(a:Int):fJ (b+L.length+2) (bg (jd cy L a) D).1:=by
 unfold jd;simp only[bg];have w1:=h.write (cy+a) (L.take (L.length-1)++[Go.Av.fU []]);have l1:(L.take (L.length-1)++[Go.Av.fU []]).length<=L.length+1:=by first|(simp;done)|(simp;omega)
 split
 .have f1:=w1.flush;split
  .rename_i c;have q:=(GX w1 c).write (cy+(a+(L.length-1:Nat))) [L.getD (L.length-1) []];split
   .exact q.up (by first|(simp;done)|(simp;omega))
   .exact q.up (by first|(simp;done)|(simp;omega))
  .exact f1.up O
 .exact w1.up O
def OH{b:Nat}{D:bt}(h:fJ b D)(J:Jr)(aI:List wB)(a:Int):fJ (b+aI.length+4) (J.uo D aI a).2.1/\(J.uo D aI a).2.1.kept.length=D.kept.length/\((J.uo D aI a).1=J\/(J.uo D aI a).1=J.done aI a):=by
 have q:=amR h J.cy (nQ J.next aI) a;have hk:=Xl J.cy (nQ J.next aI) a D;rw[wv]at q;unfold Jr.uo;split
 .exact⟨q.flush.up O,by rw[(dI _).1,hk],.inr rfl⟩
 .exact⟨q.up O,hk,.inl rfl⟩
def OI(J:Jr)(size c:Int)(h:J.at'<=c)(h2:2<=c):(jh J size).1<=c:=by
 unfold jh;split
 .exact h
 .split
  .exact h
  .split<;>exact h2
def JB.done{t:Nat}{jn:Int}{J:Jr}(h:JB t jn J)(ht:t<=30000)(b:dY)(a:Int)(ha:0<=a/\a<=1000000+t):JB (t+8) jn (J.done [(0,b)] a):=by
 have hh:=h.eM;have hl:=h.xS;have hb:=h.ok.base;refine⟨⟨h.ok.cy,h.ok.n,by simp[Jr.done];omega,by simp[Jr.done];omega,?_⟩,λp hp=>?_,by simp[Jr.done];omega,⟨by simp[Jr.done];omega,?_⟩,h.cy⟩
 .simp only[Jr.done];split<;>omega
 .simp only[Jr.done,lD,gK]at hp;rcases hp with hp|rfl
  .exact h.ho p hp
  .simp
 .simp only[Jr.done];split<;>omega
def Ru{t:Nat}{jn:Int}{J:Jr}{D:bt}(hD:fJ (t*t) D)(h:JB t jn J)(ht:t<=30000)(b:dY):fJ ((t+8)*(t+8)) (J.commit D [(0,b)]).2.1/\(J.commit D [(0,b)]).2.1.kept.length=D.kept.length/\JB (t+8) jn (J.commit D [(0,b)]).1:=by
 have eM:=h.eM;have xS:=h.xS;have hJ:=h.ok.at';have e8:=sq8 t;have hq:=Jb hD J;have hk:=z8 J D;obtain⟨k1,k2,k3,k4⟩:=Go.Av.rA J D;have hS:=h.settle D;unfold Jr.commit;split
 .split
  .obtain⟨c1,c2,c3⟩:=OH hD J [(0,b)] (jh J (([(0,b)]:List wB).length+2)).1;refine⟨c1.up (by simp;omega),c2,?_⟩;rcases c3 with c3|c3
   .rw[c3];exact h.up O
   .rw[c3];exact h.done ht b _ ⟨(Gx _ O).1,OI _ _ _ O O⟩
  .split
   .obtain⟨c1,c2,c3⟩:=OH hq (J.settle D).1 [(0,b)] (jh (J.settle D).1 (([(0,b)]:List wB).length+2)).1;refine⟨c1.up (by simp;omega),c2.trans hk,?_⟩;rcases c3 with c3|c3
    .rw[c3];exact hS.up O
    .rw[c3];exact hS.done ht b _ ⟨(Gx _ (by rw[k3];omega)).1,OI _ _ _ (by rw[k3];omega) O⟩
   .exact⟨hq.up O,hk,hS.up O⟩
 .exact⟨hD.up O,rfl,h.up O⟩
def gR.commit{t:Nat}{s:St}(h:gR t s)(ht:t<=30000)(root count:Int)(hr:-9223372036854775808<=root/\root<=9223372036854775807):gR (t+8) (s.commit root count).1:=by
 obtain⟨h1,h2,h3⟩:=Ru h.D h.J ht (pS root count);have hroot:=h.root;exact{h with D:=h1,J:=h3,sz:=by simp only[St.commit,h2];exact h.sz,OX:=by simp only[St.commit,h2];exact h.OX,dR:=cT h.dR O,root:=by simp only[St.commit];split<;>assumption}
def gR.wrote{t:Nat}{s:St}(h:gR t s)(kind e:Int)(key:aF):gR (t+8) (s.wrote kind e key):=by
 have h':gR (t+8) {s with dR:=s.dR++[⟨kind,key,false⟩]}:={h.up (Fq t 8)with dR:=by have:=h.dR;simp;omega};unfold St.wrote;split
 .exact h'.acG
 .exact h'
end Go.aL
namespace Go.Av
open Go.Proofs Go.Proofs.Tryz Go.aL
def EM(t:Nat)(s:St)(h:gR t s)(ht:t<=30000)(root count:Int):bN 234 [.obj 6 0,.p (.int root),.p (.int count)] ⟨aH 0 7 s,cH 7,17⟩ (.agg true [.p (.bool (s.commit root count).2.1),.p (.int (s.commit root count).2.2)]) ⟨aH 0 17 (s.commit root count).1,cH 17,27⟩:=by
 have hc:=Qe s.D (t*t) h.D s.J h.J.ok (by have:=Uc ht;omega) (by have:=h.J.eM;omega) h.J.ho (by have:=h.J.xS;omega) [(0,pS root count)] H;have hs:=CG root count;unfold St.commit;obtain⟨R,hR⟩:=lT (s.J.commit s.D [(0,pS root count)]);obtain⟨J',D',b,e⟩:=R;rw[hR]at hc⊢;simp only at hc⊢;refine aq [_,_] [] [(1,[(3,.r 1),(10,.w [1])])] [(1,6)] func234 rfl ?_;simp[aH,aj,ak,aR,aM,aJ,aP];refine aZ hs ?_;simp;refine wu [0,1,2,7,3,8] hc ?_;cases b with
 |true=>
  simp[-az,ak,results234];exact⟨[(19,9),(20,10),(21,11),(22,12),(23,13),(24,14),(25,15),(26,16)],H⟩
 |false=>
  simp[-az,ak,results234];exact⟨[(19,9),(20,10),(21,11),(22,12),(23,13),(24,14),(25,15),(26,16)],H⟩
def Iu(t:Nat)(s:St)(h:gR t s)(ht:t<=30000)(kind e:Int)(key:aF)(hk:key.length<=1000000):bN 153 [.obj 6 0,.p (.int kind),.p (.int e),.p (.str key)] ⟨aH 0 7 s,cH 7,17⟩ (.agg true []) ⟨aH 0 17 (s.wrote kind e key),cH 17,27⟩:=by
 have hl:=h.dR;have hf:=N7 {s with dR:=s.dR++[⟨kind,key,false⟩]} h.sl h.rm (by simp;omega);generalize hZ:s.wrote kind e key=Z;refine aC [] func153 rfl ?_;have lF:List.take (s.dR.length*3) (List.map AV.p (Kk s.dR))=List.map AV.p (Kk s.dR):=gv H;simp[aH,aj,ak,aR,aM,aJ,aP,lF];refine⟨O,O,?_⟩;by_cases c:e=0
 .subst c;simp;refine aD [0,1,2,3,4,5,6,7,8,9,10,11,12,13,14,15,17] hf H H (by simp[aA,aH,aj,ak,aR,aM,aJ,aP,Kk]) (by simp[aA]) ?_;rw[St.wrote,ai rfl]at hZ;rw[<-hZ];simp[-az,aH,aj,ak,aR,aM,aJ,aP,results153];exact⟨[(17,18),(18,19),(19,20),(20,21),(21,22),(22,23),(23,24),(24,25),(25,26),(26,27)],H⟩
 .rw[St.wrote,ah c]at hZ;rw[<-hZ];have c':(e==0)=false:=U c;simp[-az,c',results153];exact⟨[(17,7),(18,8),(19,9),(20,10),(21,11),(22,12),(23,13),(24,14),(25,15),(26,17)],by simp[Kk]⟩
end Go.Av
namespace Go.aL
open Go.Av
def ux:Kn:=⟨[],0,0,[]⟩
def Y5(ix:List Kn)(key:aF)(i:Nat):Int:=DR (ix.getD i ux).key key
def gO(ix:List Kn)(key:aF):Nat:=zR (Y5 ix key) ix.length 0 ix.length
def qn(ix:List Kn)(key:aF):Bool:=decide (gO ix key<ix.length)&&(Y5 ix key (gO ix key)==0)
def wJ:Nat->Nat->Nat->Nat->Nat
 |0,_,_,d=>d
 |f+1,n,k,d=>if k<n+1 then wJ f n (k*2) (d+1)else d
def depth(n:Nat):Nat:=wJ (n+1) n 1 1
theorem El(n:Nat):∀(a b k d:Nat),1<=k->n+1<=k+a->n+1<=k+b->wJ a n k d=wJ b n k d
 |0,0,_,_,_,_,_=>rfl
 |0,b+1,k,d,h,h1,h2=>by unfold wJ;rw[ah O]
 |a+1,0,k,d,h,h1,h2=>by unfold wJ;rw[ah O]
 |a+1,b+1,k,d,h,h1,h2=>by
  unfold wJ;split
  .exact El n a b _ _ O O O
  .rfl
end Go.aL
namespace Go.Av
open Go.Proofs Go.Proofs.Tryz Go.aL
def iR(x:Kn)(L:List Kn):nU (x::L)=PC.str x.key::PC.int x.order::PC.int x.place::PC.sl (x.body.map dO)::nU L:=rfl
def Gc(L M:List Kn):nU (L++M)=nU L++nU M:=by simp[nU]
@[simp]def am2(L:List Kn):(nU L).length=L.length*4:=by
 induction L with
 |nil=>rfl
 |cons x L ih=>rw[iR];simp[ih];omega
def Y6(l:List Kn):(l.map Pt).flatMap bA=(nU l).map AV.p:=by
 induction l with
 |nil=>rfl
 |cons x l ih=>rw[iR,dB,cU,ih];rfl
def aeI(bx:List (Nat×Ob))(k id:Nat)(l:List Kn)(h:lk id bx=some (aJ l)):dA bx (k+1) (.view id 0 l.length 4 none) (.sl (l.map Pt)):=by
 refine⟨_,h,O,H,by simp[aJ],?_,?_,?_⟩
 .rw[Y6];simp only[sQ,jx,aJ];exact gv H
 .intro y hy;obtain⟨x,_,rfl⟩:=bE.1 hy;rfl
 .intro y hy;obtain⟨x,_,rfl⟩:=bE.1 hy;rfl
def TX(s:St)(hl:s.ix.length<=1000000)(key:aF):bN 61 [.obj 6 0,.p (.str key)] ⟨[(6,aM 0 7 s),(15,aJ s.ix)],[],17⟩ (.agg true [.p (.int (gO s.ix key)),.p (.bool (qn s.ix key))]) ⟨[(6,aM 0 7 s),(15,aJ s.ix)],[],17⟩:=by
 have hb:cq 154 [.sl (s.ix.map Pt),.str key,.fn (.func 155) []] (.tp [.int (gO s.ix key),.bool (qn s.ix key)]):=K9 155 key (λk=>DR k.key key) s.ix hl (λx _=>ako x key) (Y5 s.ix key) (λi h=>by simp[Y5,List.getD,h]);refine aC [_,_] func61 rfl ?_;simp[aM];refine tJ 1 hb ⟨aeI _ 0 15 s.ix (by simp[lk]),⟨_,rfl,.inl rfl⟩,⟨_,rfl,.inl rfl⟩,trivial⟩ rfl ?_;simp[-az,results61];exact⟨[],by simp[aJ]⟩
def MJ(s:St)(hl:s.ix.length<=1000000):bN 88 [.obj 6 0] ⟨[(6,aM 0 7 s),(15,aJ s.ix)],[],17⟩ (.p (.int (depth s.ix.length))) ⟨[(6,aM 0 7 s),(15,aJ s.ix)],[],17⟩:=by
 refine aC [_] func88 rfl ?_;simp[aM];obtain⟨n,hn⟩:=lT (s.ix.length);rw[hn]at hl;refine aS (λkd:Nat×Nat=>1<=kd.1/\kd.1<=4000000/\kd.2<=kd.1/\wJ (n+1) n kd.1 kd.2=depth n) (λkd=>[(0,.obj 6 0),(4,.p (.int kd.1)),(3,.p (.int kd.2))]) (λ_=>⟨[(6,aM 0 7 s),(15,aJ s.ix)],[],17⟩) (λkd=>n+1-kd.1) (1,1) (by simp[depth]) _ (AS.le_refl _ _) (aB (by simp[aM,aJ])) ?_;rintro⟨k,d⟩ ⟨h1,h2,h3,h4⟩;simp only at h1 h2 h3 h4;have w1:=ju n;by_cases c:k<n+1
 .have w2:IntKind.i64.wrap ((k:Int)*2)=((k*2:Nat):Int):=by rw[aG];omega
  have w3:=ju d;have c':(k:Int)<(n:Int)+1:=O;have h5:wJ (n+1) n (k*2) (d+1)=depth n:=by
   rw[<-h4]
   conv=>rhs;unfold wJ
   rw[ai c];exact El n _ _ _ _ O O O
  simp[aM,hn,w1,w2,w3,c'];exact⟨k*2,d+1,⟨O,O,O,h5⟩,O,aB (by simp[aJ])⟩
 .have c':¬((k:Int)<(n:Int)+1):=O;have h5:d=depth n:=by
   rw[<-h4];unfold wJ;rw[ah c]
  simp[-az,aM,hn,w1,c',results88];exact⟨[],by simp[aJ,h5]⟩
end Go.Av
namespace Go.aL
open Go.Av
def kI:cS:=⟨[],[],[],⟨[],[],0,[],0⟩,[],0,0,0,0,0,[]⟩
def x4(b:aF):Int:=cZ (b.take 2)+2
def Hv(b:aF):aF:=(fN (b.take (x4 b+4).toNat)).1.drop 2
def X4(un:aF->cS×Int)(b:aF):cS×Int:=if(b.length:Int)<x4 b+4 then(kI,33)else if(fN (b.take (x4 b+4).toNat)).2=0 then(if(un (Hv b)).2=0 then un (Hv b)else(kI,33))else(kI,33)
def St.dev(s:St)(D:bt):St:={s with D:=D}
def St.read(un:aF->cS×Int)(s:St)(x:Int×Int):St×cS×Int:=(s.dev (s.D.read (cY s.jn s.pn+x.1) x.2).1,if(s.D.read (cY s.jn s.pn+x.1) x.2).2.2=2 then(kI,33)else if(s.D.read (cY s.jn s.pn+x.1) x.2).2.2=0 then X4 un (s.D.read (cY s.jn s.pn+x.1) x.2).2.1.flatten else(kI,(s.D.read (cY s.jn s.pn+x.1) x.2).2.2))
def KA(un:aF->cS×Int)(o:aF):Prop:=nc Go.Proofs.Tryz.prog 159 [cK o] (.tp [fK (un o).1,.int (un o).2])
def agY(b:aF)(h:b.length<=2):0<=cZ b/\cZ b<65536:=by
 have h1:=Fe b.length b rfl;have h2:256^b.length<=256^2:=Nat.pow_le_pow_right O h;have h3:(256:Nat)^2=65536:=rfl;unfold cZ;rw[aG];omega
def xX{L:List dY}(h:∀s∈L,s.length=64):L.flatten.length=L.length*64:=by
 induction L with
 |nil=>rfl
 |cons a L ih=>
  rw[jz,mo,ih (λs hs=>h s (by simp[hs])),h a H,cF];omega
def N5{b:Nat}{D:bt}(h:fJ b D)(a n:Int):(D.read a n).2.1.length<=65536/\∀s∈(D.read a n).2.1,s.length=64:=by
 have h1:=h.len;have h2:=h.top;unfold bt.read;split
 .split
  .exact⟨by simp;omega,λs hs=>h.now s (fq (oa hs))⟩
  .simp
 .simp
def QM(b:aF)(h:(fN b).2=0):(fN b).1.length=b.length-4:=by
 unfold fN at h⊢;split
 .rename_i c;rw[ai c]at h;simp at h
 .rename_i c;rw[ah c]at h;split
  .simp
  .rename_i c2;rw[ah c2]at h;simp at h
end Go.aL
namespace Go.Av
open Go.Proofs Go.Proofs.Tryz Go.aL
def afz(un:aF->cS×Int)(t:Nat)(s:St)(h:gR t s)(x:Int×Int)(hx:0<=x.1/\x.1<=4000000)(hu:(s.D.read (cY s.jn s.pn+x.1) x.2).2.2=0->KA un (Hv (s.D.read (cY s.jn s.pn+x.1) x.2).2.1.flatten)):bN 62 [.obj 6 0,.p (dO x)] ⟨aH 0 7 s,cH 7,17⟩ (.agg true [.p (fK (s.read un x).2.1),.p (.int (s.read un x).2.2)]) ⟨aH 0 17 (s.read un x).1,cH 17,27⟩:=by
 generalize hZ:s.read un x=Z;unfold St.read at hZ;refine aq [_,_] [] [(1,[(4,.r 1),(8,.r 1),(9,.w [1]),(15,.w [1])])] [(1,6)] func62 rfl ?_;have SF:=h.pn;have hjn:=h.jn;have Pz:cY s.jn s.pn=1+s.jn+s.pn*8:=rfl;have w3:IntKind.i64.wrap (cY s.jn s.pn+x.1)=cY s.jn s.pn+x.1:=aG;have qo:=yO s.jn s.pn O O;have hrd:=CV s.D (t*t) h.D (cY s.jn s.pn+x.1) x.2 O;obtain⟨R,hR⟩:=lT (s.D.read (cY s.jn s.pn+x.1) x.2);have J8:R.2.1.flatten.length<=1000000000/\R.2.1.length<=1000000000:=by
  have:=N5 h.D (cY s.jn s.pn+x.1) x.2;rw[hR]at this;have h2:=xX this.2;omega
 rw[hR]at hrd hZ hu;obtain⟨D',L,e⟩:=R;simp only at hrd hZ hu J8;simp[aH,aj,ak,aR,aM,aJ,aP];refine jf [0] qo ?_;simp[w3];refine wu [0,1,2,7] hrd ?_;by_cases c1:e=2
 .subst c1;rw[ai rfl]at hZ;rw[<-hZ];simp[-az,ak,St.dev,kI,results62];exact⟨[(17,18),(18,8),(19,9),(20,10),(21,11),(22,12),(23,13),(24,14),(25,15),(26,16)],H⟩
 rw[ah c1]at hZ;have jR:(e==2)=false:=U c1;by_cases c2:e=0
 .subst c2;rw[ai rfl]at hZ;have hu:=hu rfl;have hj:=GF L O O;generalize hb:L.flatten=b at hZ hu hj J8;have ht2:(b.take 2).length<=2:=by simp;omega
  have hn2:=yN (b.take 2) O;have hw2:=agY (b.take 2) ht2;obtain⟨m,hm⟩:∃m:Nat,min 2 b.length=m:=⟨_,rfl⟩;have hmn:(if(b.length:Int)<2 then(b.length:Int)else 2)=(m:Int):=by split<;>omega
  have lF:List.take m (af b)=af (b.take 2):=by
   rw[<-hm];simp only[af,<-fG];congr 1;by_cases c:2<=b.length
   .rw[eS c]
   .rw[BF O,gv (aX _),gv O]
  have hrn:x4 b=cZ (b.take 2)+2:=rfl;have w4:IntKind.i64.wrap (cZ (b.take 2)+2)=x4 b:=aG;have w5:IntKind.i64.wrap (x4 b+4)=x4 b+4:=aG;simp[ak];refine cm hj ?_;simp[hmn,lF];refine⟨λy h=>(cJ _ y h).symm,O,fY hn2 H ?_⟩;unfold X4 at hZ;by_cases c3:(b.length:Int)<x4 b+4
  .rw[ai c3]at hZ;rw[<-hZ];simp[-az,w4,w5,c3,St.dev,kI,results62];exact⟨[(17,18),(18,8),(19,9),(20,10),(21,11),(22,12),(23,13),(24,14),(25,15),(26,16)],H⟩
  .rw[ah c3]at hZ;obtain⟨q,hq⟩:∃q:Nat,(x4 b+4).toNat=q:=⟨_,rfl⟩;have Fu:x4 b+4=(q:Int):=O;have hO:=Gy (b.take q) (by simp;omega);have xS:=QM (b.take q);unfold Hv at hu hZ;rw[hq]at hu hZ;generalize hOe:fN (b.take q)=O1 at hu hZ hO xS;obtain⟨o,eo⟩:=O1;simp only at hu hZ hO xS;simp[w4,w5,c3];refine⟨λy h=>(cJ _ y h).symm,O,O,?_⟩;rw[hq];refine fY hO (by simp[af]) ?_;by_cases c4:eo=0
   .subst c4;rw[ai rfl]at hZ;obtain⟨U1,hU⟩:=lT (un (o.drop 2));unfold KA at hu;rw[hU]at hu hZ;obtain⟨ue,uc⟩:=U1;simp only at hu hZ;have hoo:2<=o.length:=by
     have:=xS rfl;rw[this,lV];omega
    simp;refine⟨λy h=>(cJ _ y h).symm,hoo,?_⟩;refine fY hu (by simp[af]) ?_;by_cases c5:uc=0
    .subst c5;rw[ai rfl]at hZ;rw[<-hZ];simp[-az,St.dev,results62];exact⟨[(17,18),(18,8),(19,9),(20,10),(21,11),(22,12),(23,13),(24,14),(25,15),(26,16)],H⟩
    .rw[ah c5]at hZ;rw[<-hZ];have BP:(uc !=0)=true:=U c5;simp[-az,St.dev,BP,kI,results62];exact⟨[(17,18),(18,8),(19,9),(20,10),(21,11),(22,12),(23,13),(24,14),(25,15),(26,16)],H⟩
   .rw[ah c4]at hZ;rw[<-hZ];have uy:(eo !=0)=true:=U c4;simp[-az,St.dev,uy,kI,results62];exact⟨[(17,18),(18,8),(19,9),(20,10),(21,11),(22,12),(23,13),(24,14),(25,15),(26,16)],H⟩
 .rw[ah c2]at hZ;rw[<-hZ];have eY:(e !=0)=true:=U c2;simp[-az,ak,St.dev,kI,jR,eY,results62];exact⟨[(17,18),(18,8),(19,9),(20,10),(21,11),(22,12),(23,13),(24,14),(25,15),(26,16)],H⟩
end Go.Av
namespace Go.aL
open Go.Av
def St.get(un:aF->cS×Int)(s:St)(key:aF):St×cS×Bool×Int:=if qn s.ix key=true then
 (if(s.read un (s.ix.getD (gO s.ix key) ux).gP).2.2=0 then((s.read un (s.ix.getD (gO s.ix key) ux).gP).1,(s.read un (s.ix.getD (gO s.ix key) ux).gP).2.1,true,0)
 else((s.read un (s.ix.getD (gO s.ix key) ux).gP).1,kI,false,(s.read un (s.ix.getD (gO s.ix key) ux).gP).2.2))else(s,kI,false,0)
def afy{k:Kn}(h:KH k):(0<=k.gP.1/\k.gP.1<=4000000)/\0<=k.gP.2/\k.gP.2<256:=by
 have:=h.place;unfold Kn.gP;simp only;omega
def yZ{ix:List Kn}{key:aF}(h:qn ix key=true):gO ix key<ix.length:=by
 unfold qn at h;simp at h;exact h.1
def St.OW(s:St)(x:Int×Int):aF:=Hv (s.D.read (cY s.jn s.pn+x.1) x.2).2.1.flatten
end Go.aL
namespace Go.Av
open Go.Proofs Go.Proofs.Tryz Go.aL
def tM{l:List Kn}{i:Nat}(h:i<l.length):((nU l).drop (i*4)).take 4=[PC.str l[i].key,.int l[i].order,.int l[i].place,.sl (l[i].body.map dO)]:=by
 induction l generalizing i with
 |nil=>simp at h
 |cons x l ih=>
  cases i with
  |zero=>simp[iR]
  |succ i=>
   have:=ih (i:=i) (U h);rw[iR,show(i+1)*4=i*4+1+1+1+1 by omega];simpa using this
def akM(un:aF->cS×Int)(t:Nat)(s:St)(h:gR t s)(key:aF)(hu:qn s.ix key=true->(s.D.read (cY s.jn s.pn+(s.ix.getD (gO s.ix key) ux).gP.1) (s.ix.getD (gO s.ix key) ux).gP.2).2.2=0->KA un (s.OW (s.ix.getD (gO s.ix key) ux).gP)):bN 16 [.obj 6 0,.p (.str key)] ⟨aH 0 7 s,cH 7,17⟩ (.agg true [.p (fK (s.get un key).2.1),.p (.bool (s.get un key).2.2.1),.p (.int (s.get un key).2.2.2)]) ⟨aH 0 17 (s.get un key).1,cH 17,27⟩:=by
 generalize hZ:s.get un key=Z;unfold St.get at hZ;have ha:=TX s h.RQ key;refine aC [_,_,_] func16 rfl ?_;simp[aH];refine aD [0,1,2,3,4,5,6,7,8,9,10,11,12,13,14,15,16] ha H H (by simp[aA,aM,aJ]) H ?_;cases c1:qn s.ix key with
 |false=>
  rw[c1]at hZ;simp only[dZ,dc]at hZ;rw[<-hZ];simp[-az,aj,ak,aR,aM,aJ,aP,kI,results16];exact⟨[(17,7),(18,8),(19,9),(20,10),(21,11),(22,12),(23,13),(24,14),(25,15),(26,16)],H⟩
 |true=>
  rw[c1]at hZ;simp only[cr]at hZ;have hi:=yZ c1;have hu:=hu c1;have hg:s.ix.getD (gO s.ix key) ux=s.ix[gO s.ix key]:=by simp[List.getD,hi]
  rw[hg]at hZ hu;have hk:=h.ix _ (bB hi);generalize gO s.ix key=i at hi hZ hu hk;have FG:=Ct s.ix[i] hk.place;have nE:=tM hi;generalize hK:s.ix[i]=K at hZ hu hk FG nE;have hrd:=afz un t s h K.gP (afy hk).1 hu;generalize hR:s.read un K.gP=R at hZ hrd;obtain⟨s',e,c⟩:=R;simp only at hZ hrd;have hle:i*4+4<=s.ix.length*4:=O;have Cj:List.take 4 (List.drop (i*4) (List.map AV.p (nU s.ix)))=[.p (.str K.key),.p (.int K.order),.p (.int K.place),.p (.sl (K.body.map dO))]:=by
   rw[<-jG,<-fG,nE];rfl
  simp[aM,aJ,hi,hle,Cj];refine cm FG ?_;simp;refine pR [0,1,2,3,4,5,6,7,8,9,10,11,12,13,14,15,16] hrd ?_;by_cases c5:c=0
  .subst c5;rw[ai rfl]at hZ;rw[<-hZ];simp[-az,aH,aj,ak,aR,aM,aJ,aP,results16];exact⟨[(17,18),(18,19),(19,20),(20,21),(21,22),(22,23),(23,24),(24,25),(25,26),(26,27)],H⟩
  .rw[ah c5]at hZ;rw[<-hZ];have BP:(c !=0)=true:=U c5;simp[-az,aH,aj,ak,aR,aM,aJ,aP,BP,kI,results16];exact⟨[(17,18),(18,19),(19,20),(20,21),(21,22),(22,23),(23,24),(24,25),(25,26),(26,27)],H⟩
def YR(a b:eL)(ha:a.length<=1000000000000)(hb:b.length<=1000000000000):cq 65 [.sl (a.map dO),.sl (b.map dO)] (.bool (decide (a=b))):=by
 refine ay [.bool _] func65 rfl ?_;by_cases c0:a.length=b.length
 .have n0:((a.length:Int) !=(b.length:Int))=false:=by simp[c0]
  simp[n0];refine bI (λk:Nat=>k<=a.length/\a.take k=b.take k) (λk=>[(0,.p (.sl (a.map dO))),(1,.p (.sl (b.map dO))),(12,.p (.int a.length)),(13,.p (.int k))]) (λk=>a.length-k) 0 H (aB H) ?_;rintro k ⟨h1,h2⟩;by_cases c1:k<a.length
  .have c2:k<b.length:=O;have w1:=ju k;by_cases c3:a[k]=b[k]
   .have c31:a[k].1=b[k].1:=by rw[c3]
    have c32:a[k].2=b[k].2:=by rw[c3]
    simp[c1,c2,w1,c31,c32];refine⟨k+1,⟨O,?_⟩,O,aB H⟩;rw[kG c1,kG c2,h2,c3]
   .have hne:a≠b:=λh=>c3 (by subst h;rfl);have n3:(!a[k].1==b[k].1||!a[k].2==b[k].2)=true:=by
     cases hh:(!a[k].1==b[k].1||!a[k].2==b[k].2)with
     |true=>rfl
     |false=>
      simp at hh;exact absurd (Prod.ext hh.1 hh.2) c3
    simp[c1,c2,n3,hne,results65]
  .have he:a=b:=by
    have e:k=a.length:=O;subst e;rw[eH]at h2;rw[h2,c0,eH]
   subst he;simp[c1,results65]
 .have n0:((a.length:Int) !=(b.length:Int))=true:=by simp[bne];omega
  have hne:a≠b:=λh=>c0 (by rw[h]);simp[n0,hne,results65]
end Go.Av
namespace Go.aL
open Go.Av
def gU(r:Int):eL->bt->aF->bt×aF×Int
 |[],D,o=>(D,o,0)
 |e::l,D,o=>if(D.read (r+e.1) e.2).2.2=0 then gU r l (D.read (r+e.1) e.2).1 (o++(D.read (r+e.1) e.2).2.1.flatten)else((D.read (r+e.1) e.2).1,[],(D.read (r+e.1) e.2).2.2)
def St.GK(s:St)(x:cS):Bool:=qn s.ix (x.uri++10::x.var)&&(decide ((s.ix.getD (gO s.ix (x.uri++10::x.var)) ux).order=x.order)&&(decide ((s.ix.getD (gO s.ix (x.uri++10::x.var)) ux).body=x.body)&&(decide (x.size<=zZ x.body)&&decide (0<=x.size))))
def St.body(s:St)(x:cS):St×aF×Int:=if s.GK x=true then
 (s.dev (gU (cY s.jn s.pn) x.body s.D []).1,if(gU (cY s.jn s.pn) x.body s.D []).2.2=0 then(if xw ((gU (cY s.jn s.pn) x.body s.D []).2.1.take x.size.toNat)=x.sum then((gU (cY s.jn s.pn) x.body s.D []).2.1.take x.size.toNat,0)else([],33))else([],(gU (cY s.jn s.pn) x.body s.D []).2.2))else(s,[],2)
def afF{b:Nat}{D:bt}(h:fJ b D)(a n:Int)(hz:(D.read a n).2.2=0):(D.read a n).2.1.length=n.toNat/\0<=n:=by
 have h1:=h.len;unfold bt.read at hz⊢;split at hz
 .rename_i c;rw[ai c];unfold bt.there at c;simp only[bG,eZ]at c;split at hz
  .rename_i c2;rw[ai c2];refine⟨?_,c.1.2⟩;simp;omega
  .rename_i c2;exact absurd hz c2
 .simp at hz
theorem sY(r:Int):∀(k:Nat) (l:eL) (D:bt) (o:aF) (D1:bt) (o1:aF),k<=l.length->gU r (l.take k) D o=(D1,o1,0)->gU r l D o=gU r (l.drop k) D1 o1
 |0,l,D,o,D1,o1,_,h=>by
  simp[gU]at h;obtain⟨rfl,rfl⟩:=h;rfl
 |k+1,[],_,_,_,_,hk,_=>by simp at hk
 |k+1,e::l,D,o,D1,o1,hk,h=>by
  rw[jH,gU]at h;split at h
  .rename_i c;rw[gU,ai c,gJ];exact sY r k l _ _ D1 o1 (U hk) h
  .rename_i c;simp only[Prod.mk.injEq]at h;exact absurd h.2.2 c
end Go.aL
namespace Go.Av
open Go.Proofs Go.Proofs.Tryz Go.aL
def aac(s:St)(D:bt)(o:aF):Tb:=⟨[(0,aj 0 17 D),(1,ak D.kept),(2,ak D.now),(3,iB 0 8 s.J),(4,aR 9 s.sl),(5,aR 12 s.rm),(6,aM 0 7 s),(9,cI s.sl.F),(10,cI s.sl.R),(11,cI s.sl.W),(12,cI s.rm.F),(13,cI s.rm.R),(14,cI s.rm.W),(15,aJ s.ix),(16,aP s.dR)],[(17,174,65),(8,364,2),(18,5,1)],19⟩
def afG(t:Nat)(s:St)(h:gR t s)(x:cS)(hx:x.uri.length<=1000/\x.var.length<=1000)(hb:x.body.length<=8/\∀e∈x.body,(0<=e.1/\e.1<=65536)/\0<=e.2/\e.2<=65536):bN 17 [.obj 6 0,.p (fK x)] ⟨aH 0 7 s,cH 7,17⟩ (.agg true [.p (cK (s.body x).2.1),.p (.int (s.body x).2.2)]) ⟨aH 0 17 (s.body x).1,cH 17,27⟩:=by
 generalize hZ:s.body x=Z;unfold St.body at hZ;obtain⟨key,hkey⟩:=lT (x.uri++10::x.var);have hK:=HY x.uri x.var O O;rw[hkey]at hK;have ha:=TX s h.RQ key;refine aq [_,_] [] [(2,[(6,.r 1),(10,.r 2),(19,.r 1),(23,.r 2),(26,.w []),(34,.w [])]),(8,[(4,.r 1),(8,.r 1),(9,.w [1,3]),(11,.r 3),(14,.r 3),(15,.w [1,3])]),(14,[(2,.w [])])] [(1,6),(2,15),(3,19)] func17 rfl ?_;simp[aH];refine cm hK ?_;simp;refine aD [0,1,2,3,4,5,6,7,8,9,10,11,12,13,14,15,16] ha H H (by simp[aA,aM,aJ]) H ?_;unfold St.GK at hZ;rw[hkey]at hZ;cases c1:qn s.ix key with
 |false=>
  rw[c1]at hZ;simp only[dZ,dc,gy]at hZ;rw[<-hZ];simp[-az,aj,ak,aR,aM,aJ,aP,results17];exact⟨[(17,7),(18,8),(19,9),(20,10),(21,11),(22,12),(23,13),(24,14),(25,15),(26,16)],by simp[af]⟩
 |true=>
  have hi:=yZ c1;have hg:s.ix.getD (gO s.ix key) ux=s.ix[gO s.ix key]:=by simp[List.getD,hi]
  rw[c1,hg]at hZ;have hk:=h.ix _ (bB hi);generalize gO s.ix key=i at hi hZ hk;have nE:=tM hi;generalize hKe:s.ix[i]=K at hZ hk nE;simp only[ox]at hZ;have hg1:(nU s.ix)[i*4+1]?=some (PC.int K.order):=by
   have:=dg (λl=>l[1]?) nE;simpa[u_,F3]using this
  have hg3:(nU s.ix)[i*4+3]?=some (PC.sl (K.body.map dO)):=by
   have:=dg (λl=>l[3]?) nE;simpa[u_,F3]using this
  by_cases c2:K.order=x.order
  .have eY:(K.order !=x.order)=false:=by simp[c2]
   simp[aM,aJ,hi,hg1,hg3,c2];have hE:=YR K.body x.body (by have:=hk.bl;omega) O;refine cm hE ?_;by_cases c3:K.body=x.body
   .have hS:=IZ x.body O (λe he=>(hb.2 e he).2);simp[c3];refine cm hS ?_;by_cases c4:x.size<=zZ x.body
    .have uy:¬zZ x.body<x.size:=O;by_cases c5:0<=x.size
     .have BP:¬x.size<0:=O;simp only[c2,c3,c4,c5,decide_true,Bool.and_true,cr]at hZ;simp[uy,BP];clear nE hg1 hg3 hE hS hK ha hKe;have SF:=h.pn;have hjn:=h.jn;have Pz:cY s.jn s.pn=1+s.jn+s.pn*8:=rfl;have qo:=yO s.jn s.pn O O;generalize hr:cY s.jn s.pn=r at qo Pz hZ;generalize hY:gU r x.body s.D []=Y at hZ;refine aS (λa:Nat×bt×aF=>a.1<=x.body.length/\fJ (t*t) a.2.1/\gU r (x.body.take a.1) s.D []=(a.2.1,a.2.2,0)/\(a.2.2.length:Int)=zZ (x.body.take a.1)) (λa=>[(0,.obj 6 0),(3,.p (.ref (fK x))),(66,.p (.sl (x.body.map dO))),(67,.p (.int x.body.length)),(68,.p (.int a.1)),(8,.own 18 (af a.2.2))]) (λa=>aac s a.2.1 a.2.2) (λa=>x.body.length-a.1) (0,s.D,[]) (by simp[gU,h.D,zZ])
       _ (Ci 8 5 1 [] (.inr ⟨rfl,H⟩)) (aE [(17,7),(18,17)] (by simp[aac,aj,ak,aR,aP,aM,aJ,af])) ?_
      rintro⟨k,D,o⟩ ⟨q1,q2,q3,q4⟩;simp only at q1 q2 q3 q4;have hsp:=sY r k x.body s.D [] D o q1 q3;rw[hY]at hsp;have hbk:=Vo (x.body.take k) (λe he=>(hb.2 e (oa he)).2);have aoR:(x.body.take k).length<=8:=by simp;omega
      by_cases ck:k<x.body.length
      .obtain⟨e,he⟩:=lT (x.body[k]);have XC:=hb.2 e (by rw[<-he];exact bB ck);have wk:=ju k;have w3:IntKind.i64.wrap (r+e.1)=r+e.1:=aG;have hrd:=CV D (t*t) q2 (r+e.1) e.2 O;have hss:=N5 q2 (r+e.1) e.2;have hrn:=afF q2 (r+e.1) e.2;have hdk:=q2.read (r+e.1) e.2;rw[eK ck,he,gU]at hsp;have lF:x.body.take (k+1)=x.body.take k++[e]:=by rw[kG ck,he]
       generalize hR:D.read (r+e.1) e.2=R at hrd hss hrn hdk hsp;obtain⟨D',L,c⟩:=R;simp only at hrd hss hrn hdk hsp;have hfl:=xX hss.2;simp[aac,aM,ck,he];refine jf [0] qo ?_;simp[w3];refine aD [0,1,2,17] hrd H H (by simp[aA,aj,ak]) (by simp[aA]) ?_;by_cases cc:c=0
       .subst cc;have hj:=GF L O O;have hn:=hrn rfl;simp[ak,aj];refine cm hj ?_;have oO:(List.map List.length L).sum=L.flatten.length:=je.symm;have e1:(x.body.take (k+1)).take k=x.body.take k:=by rw[qY,eS O]
        have e2:=sY r k (x.body.take (k+1)) s.D [] D o (by simp;omega) (by rw[e1];exact q3);have e3:(x.body.take k++[e]).drop k=[e]:=kr (by simp;omega);have e4:gU r [e] D o=(D',o++L.flatten,0):=by simp[gU,hR]
        rw[lF,e3,e4]at e2;have e5:((o++L.flatten).length:Int)=zZ (x.body.take k++[e]):=by rw[IY,mo];omega
        simp[wk];exact⟨λy h=>cJ _ y h,λy h=>cJ _ y h,O,O,k+1,D',o++L.flatten,⟨O,hdk,by rw[lF];exact e2,by rw[lF];exact e5⟩,O,aE [(17,20),(18,21)] (by simp[af,aR,aJ,aP])⟩
       .have cc':(c !=0)=true:=U cc;rw[ah cc]at hsp;rw[<-hZ,hsp];simp[-az,aj,ak,aR,aJ,aP,cc,cc',St.dev,results17];exact⟨[(17,20),(18,8),(19,9),(20,10),(21,11),(22,12),(23,13),(24,14),(25,15),(26,16)],by simp[af]⟩
      .obtain rfl:k=x.body.length:=O;rw[eH]at q3 q4 hbk aoR;rw[hY]at q3;rw[q3]at hZ;have xS:o.length<=40000000:=O;generalize hn:x.size.toNat=n at hZ;have aoS:n<=o.length:=O;have hsum:=VA [o.take n] H (by intro b hb;simp at hb;subst hb;simp;omega);have SJ:List.take n (af o)=af (o.take n):=by simp[af]
       simp[aac,aM,hn,SJ];refine⟨λy h=>(cJ _ y h).symm,c5,aoS,?_⟩;refine cm hsum ?_;simp only[jz,qW,gL];by_cases c6:xw (o.take n)=x.sum
       .simp only[c6,cr]at hZ;rw[<-hZ];simp[-az,aj,ak,aR,aJ,aP,c6,St.dev,results17];exact⟨[(17,17),(18,8),(19,9),(20,10),(21,11),(22,12),(23,13),(24,14),(25,15),(26,16)],by simp[af]⟩
       .have c6':((xw (o.take n):Int) !=(x.sum:Int))=true:=bne_iff_ne.2 O;simp only[c6,cr,dc]at hZ;rw[<-hZ];simp[-az,aj,ak,aR,aJ,aP,c6',St.dev,results17];exact⟨[(17,17),(18,8),(19,9),(20,10),(21,11),(22,12),(23,13),(24,14),(25,15),(26,16)],by simp[af]⟩
     .have BP:x.size<0:=O;simp only[c5,B3,F1,dZ,dc]at hZ;rw[<-hZ];simp[-az,aj,ak,aR,aP,uy,BP,results17];exact⟨[(17,7),(18,8),(19,9),(20,10),(21,11),(22,12),(23,13),(24,14),(25,15),(26,16)],by simp[af]⟩
    .have uy:zZ x.body<x.size:=O;simp only[c4,B3,gy,F1,dZ,dc]at hZ;rw[<-hZ];simp[-az,aj,ak,aR,aP,uy,results17];exact⟨[(17,7),(18,8),(19,9),(20,10),(21,11),(22,12),(23,13),(24,14),(25,15),(26,16)],by simp[af]⟩
   .simp only[c3,B3,gy,F1,dZ,dc]at hZ;rw[<-hZ];simp[-az,aj,ak,aR,aP,c3,results17];exact⟨[(17,7),(18,8),(19,9),(20,10),(21,11),(22,12),(23,13),(24,14),(25,15),(26,16)],by simp[af]⟩
  .have eY:(K.order !=x.order)=true:=by simp[c2]
   simp only[c2,B3,gy,dZ,dc]at hZ;rw[<-hZ];simp[-az,aj,ak,aR,aM,aJ,aP,hi,hg1,eY,results17];exact⟨[(17,7),(18,8),(19,9),(20,10),(21,11),(22,12),(23,13),(24,14),(25,15),(26,16)],by simp[af]⟩
end Go.Av
