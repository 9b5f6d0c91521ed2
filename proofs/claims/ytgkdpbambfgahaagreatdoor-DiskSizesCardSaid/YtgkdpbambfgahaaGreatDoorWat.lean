/- DiskSizes, part 20: what the functions compute, and the plain law of that; no condition. -/
import Derived.Test.YtgkdpbambfgahaaGreatDoorWas
set_option linter.all false
set_option maxRecDepth 100000
set_option maxHeartbeats 64000000
namespace Go.cI
theorem uU:∀(N:Nat) {L:List Int},L.Nodup->(∀p∈L,1<=p/\p<=(N:Int))->L.length<=N
 |0,[],_,_=>by simp
 |0,p::L,_,h=>by have:=h p (by simp);omega
 |N+1,L,hn,h=>by
  have h1:=uU N (L:=L.filter fun p=>p≠((N+1:Nat):Int)) (List.Pairwise.filter _ hn) fun p hp=>by
   have h2:=List.mem_filter.1 hp;have:=h p h2.1;have h3:p≠((N+1:Nat):Int):=by simpa using h2.2
   omega
  have h2:L.length<=(L.filter fun p=>p≠((N+1:Nat):Int)).length+L.count ((N+1:Nat):Int):=by
   clear h1 h hn
   induction L with
   |nil=>simp
   |cons a L ih=>
    by_cases e:a=((N+1:Nat):Int)
    ·rw[List.filter_cons_of_neg (by simp[e]),e,List.count_cons_self];simp only[List.length_cons];omega
    ·rw[List.filter_cons_of_pos (by simpa using e),List.count_cons_of_ne (by simpa using e)];simp only[List.length_cons];omega
  have h3:=List.nodup_iff_count.1 hn ((N+1:Nat):Int);omega
end Go.cI
namespace Go.Av
open Go.Proofs Go.cI
@[reducible]def yq(n:Nd):PC:=dh n.lf n.ks n.vs
@[reducible]def itP(x:Key×Int):PC:= .agg false [.str x.1,.int x.2]
@[reducible]def agY(l:je):PC:= .sl (l.map itP)
theorem O9(key:Key)(v:Int):aB Tryz.prog 237 [.str key,.int v] (.bool (jY key v)):=by
 refine QpQ (ys:=[_]) [] [] [] Tryz.func237 rfl (by simp[Tryz.ntmps237]) ?_;by_cases c1:key=[]
 ·subst c1;simp[jY,Tryz.results237]
 have h1:1<=key.length:=by cases key with|nil=>exact absurd rfl c1|cons=>simp
 have hne:(key !=[])=true:=by simpa using c1
 by_cases c2:key.length<=100
 ·have dX:(key.length:Int)<=100:=by omega
  by_cases c3:0<=v
  ·by_cases c4:v<=1099511627775
   ·have jU:v<1099511627776:=by omega
    simp[hne,c2,dX,c3,c4,jU,h1,jY,Tryz.results237]
   ·have jU:¬v<1099511627776:=by omega
    simp[hne,c2,dX,c3,c4,jU,h1,jY,Tryz.results237]
  ·simp[hne,c2,dX,c3,h1,jY,Tryz.results237]
 ·have dX:¬(key.length:Int)<=100:=by omega
  simp[hne,c2,dX,h1,jY,Tryz.results237]
theorem Wu(k lo:Key)(hi:Option Key):aB Tryz.prog 372 [.str k,.ref (.str lo),.ref (.bool hi.isSome),.ref (.str (hi.getD []))] (.bool (!(!Op.bytesLess k lo&&(match hi with|some h=>Op.bytesLess k h|none=>true)))):=by
 refine QpQ (ys:=[_]) [] [] [] Tryz.func372 rfl (by simp[Tryz.ntmps372]) ?_;by_cases c1:Op.bytesLess k lo=true
 ·simp[c1,Tryz.results372]
 have jH:Op.bytesLess k lo=false:=by simpa using c1
 cases hi with
 |none=>simp[jH,Tryz.results372]
 |some h=>simp[jH,Tryz.results372]
theorem Wv(n:Nd)(lo:Key)(hi:Option Key)(hk:n.ks.length<=9223372036854775807):aB Tryz.prog 333 [yq n,.str lo,.str (hi.getD []),.bool hi.isSome] (.bool (xd n lo hi)):=by
 refine QpQ (ys:=[_]) [] [] [] Tryz.func333 rfl (by simp[Tryz.ntmps333]) ?_;simp;refine ai (vU _ n.ks hk fun s _=>Wu s lo hi) (by simp) ?_;simp[Tryz.results333,xd,List.all_eq_not_any_not];cases hi<;>rfl
theorem Cb:∀(ks:List Key),chn ks->AH ks=true
 |[],_=>rfl
 |[_],_=>rfl
 |a::b::l,h=>by simp only[AH,Bool.and_eq_true];exact⟨h.1,Cb (b::l) h.2⟩
theorem Ej(n:Nd):fc n.lf n.ks n.vs=true↔Right n:=by
 constructor
 ·intro h;have hc:=pq h;simp only[fc,Bool.and_eq_true,decide_eq_true_eq,List.all_eq_true,List.mem_range,Bool.or_eq_true]at h;obtain⟨⟨⟨⟨h1,h2⟩,h3⟩,h4⟩,h5⟩:=h;refine⟨(xp _).1 (Cb _ hc.1),fun k hk=>?_,fun v hv=>?_,h1,by simpa[nO]using h2,fun hl=>?_⟩
  ·obtain⟨i,hi,rfl⟩:=List.getElem_of_mem hk;have:=h4 i hi;simp only[kB,Bool.and_eq_true,decide_eq_true_eq,List.getD_eq_getElem?_getD,List.getElem?_eq_getElem hi,Option.getD_some]at this;exact this.1
  ·have:=h5 v hv;simpa[vB,vOk]using this
  ·rcases h3 with h3|h3
   ·rw[hl]at h3;cases h3
   ·exact h3
 ·intro h;simp only[fc,Bool.and_eq_true,decide_eq_true_eq,List.all_eq_true,List.mem_range,Bool.or_eq_true];refine⟨⟨⟨⟨h.len,by simpa[nO]using h.form⟩,?_⟩,fun i hi=>?_⟩,fun v hv=>by have:=h.vals v hv;simpa[vB,vOk]using this⟩
  ·cases hl:n.lf with
   |true=>exact .inl rfl
   |false=>exact .inr (h.inner hl)
  ·have hk:=h.keys _ (List.getElem_mem hi);simp only[kB,Bool.and_eq_true,decide_eq_true_eq,List.getD_eq_getElem?_getD,List.getElem?_eq_getElem hi,Option.getD_some,Bool.or_eq_true,beq_iff_eq];refine⟨hk,?_⟩;rcases Nat.eq_zero_or_pos i with h0|h0
   ·exact .inl h0
   ·right;rw[List.getElem?_eq_getElem (by omega)];exact vG h.Lw (by omega) hi
theorem kL(n:Nd):fc n.lf n.ks n.vs=rB n:=by rw[Bool.eq_iff_iff,Ej,jS]
def jT(v:Int):Prop:=-9223372036854775808<=v/\v<=9223372036854775807
theorem Lx(n:Nd)(key:Key)(hk:n.ks.length<=1000000):aB Tryz.prog 315 [yq n,.str key] (.int (dm n key:Nat)):=Po n.lf n.ks n.vs key (by omega)
theorem TC(n:Nd)(key:Key)(hk:n.ks.length<=1000000):aB Tryz.prog 239 [yq n,.str key] (.tp [.int (bY n key:Nat),.bool (rq n key)]):=V0 n.lf n.ks n.vs key (by omega)
structure lW(n:Nd):Prop where
 ks:n.ks.length<=500
 vs:n.vs.length<=500
 keys:∀k∈n.ks,k.length<=1000000
theorem PV{n:Nd}(h:lW n):lW (gv n):=by
 unfold gv;split
 ·exact⟨by have:=h.ks;simp[iZ];omega,by have:=h.vs;simp[iZ];omega,fun k hk=>h.keys k (List.mem_of_mem_take hk)⟩
 ·exact h
theorem PW{n:Nd}(h:lW n):lW (jX n):=by
 unfold jX;split
 ·exact⟨by have:=h.ks;simp[i_];omega,by have:=h.vs;simp[i_];omega,fun k hk=>h.keys k (List.mem_of_mem_drop hk)⟩
 ·exact⟨by simp,by simp,by simp⟩
theorem splitB(n:Nd)(hn:lW n)(h4:4<n.ks.length):aB Tryz.prog 323 [yq n] (.tp [yq (gv n),.str (qj n),yq (jX n)]):=by
 have h:=PX n.lf n.ks n.vs (by have:=hn.ks;omega) (by have:=hn.vs;omega);have e:tG n.lf n.ks n.vs= .tp [yq (gv n),.str (qj n),yq (jX n)]:=by
  unfold tG gv jX qj Dx nO;by_cases c:(n.vs.length==n.ks.length+(if n.lf then 0 else 1))=true
  ·rw[c];have:decide (2<=n.ks.length)=true:=by simp;omega
   simp only[this,Bool.and_true,if_true];rfl
  ·have c':(n.vs.length==n.ks.length+(if n.lf then 0 else 1))=false:=Bool.eq_false_iff.2 c;rw[c'];simp
 rwa[e]at h
theorem Wt(n:Nd)(c:Nat)(p:Int)(hn:lW n)(hc:c<n.vs.length):aB Tryz.prog 327 [yq n,.int c,.int p] (yq (ke n c p)):=by
 have h2:=hn.vs;have gR:=Cc 2 (n.vs.map PC.int) (by simp) (by simp) (by simp;omega);refine bN (xs:=[_,_,_]) (r:= .agg false [.p (.bool n.lf),.p (.sl (n.ks.map PC.str)),.view 0 0 n.vs.length 1 none]) (aO:=⟨[(0,⟨3,1,((n.vs.set c p).map PC.int).map .p⟩)],[],1⟩) ?_ ?_
 ·refine QgQ (rs:=[_]) [3] [] [] Tryz.func327 rfl (by simp[Tryz.ntmps327]) ?_;simp;refine az gR (by simp) trivial trivial rfl ?_;have ec:(n.vs.map PC.int).flatMap gu=n.vs.map PC.int:=by
   induction n.vs with
   |nil=>rfl
   |cons x l ih=>simp[ih]
  have sc:List.take c (n.vs.map (AV.p∘PC.int))++AV.p (PC.int p)::List.drop (c+1) (n.vs.map (AV.p∘PC.int))=(n.vs.map (AV.p∘PC.int)).set c (AV.p (PC.int p)):=by
   rw[List.set_eq_take_append_cons_drop,if_pos (by simpa using hc)]
  have ls:AV.e_.eE 1 ((n.vs.map (AV.p∘PC.int)).set c (AV.p (PC.int p)))=true:=by
   rw[show(n.vs.map (AV.p∘PC.int)).set c (AV.p (PC.int p))=(n.vs.set c p).map (AV.p∘PC.int) by simp];exact PY
  simp[ec,hc,sc,Tryz.results327];exact⟨by omega,[(0,2)],by simp[ls]⟩
 ·obtain⟨V,hV⟩:∃V,V=n.vs.set c p:=⟨_,rfl⟩;have hl:V.length=n.vs.length:=by rw[hV,List.length_set]
  have e:ke n c p=⟨n.lf,n.ks,V⟩:=by rw[hV];rfl
  rw[e,<-hV,<-hl];simp[cQ,ie,Ub]
theorem O'(n:Nd)(i:Nat)(key:Key)(us:List Int)(hn:lW n)(hu:us.length<=1000)(hf:Dx n=true)(hi:i<=n.ks.length):aB Tryz.prog 242 [yq n,.int i,.str key,.sl (us.map PC.int)] (yq (fV n i key us)):=by
 have h:=Ly n.lf n.ks n.vs i key us (by have:=hn.ks;omega) (by have:=hn.vs;omega) (by omega);have ok:rU n.lf n.ks n.vs i=true:=by
  unfold rU nO;have hf':=hf;unfold Dx at hf';rw[hf'];simp;omega
 unfold F5 F6 at h;rw[ok]at h;simp only[if_true,Int.toNat_natCast]at h;simpa[fV]using h
theorem amD(n:Nd)(i:Nat)(hn:lW n)(hf:Dx n=true)(hi:i<n.ks.length):aB Tryz.prog 240 [yq n,.int i] (yq (lV n i)):=by
 have h:=Lz n.lf n.ks n.vs i (by have:=hn.ks;omega) (by have:=hn.vs;omega);have ok:rV n.lf n.ks n.vs i=true:=by
  unfold rV nO;have hf':=hf;unfold Dx at hf';rw[hf'];simp;omega
 unfold F7 F8 at h;rw[ok]at h;simp only[if_true,Int.toNat_natCast]at h;simpa[lV,bh]using h
structure HQ(x:Step):Prop where
 rt:Right x.n
 inn:x.n.lf=false
 c:x.c<=x.n.ks.length
 p:jT x.p
theorem jK{n:Nd}(h:Right n):lW n:=by
 have h1:=h.len;have h2:=h.form;exact⟨by omega,by rw[h2];split<;>omega,fun k hk=>by have:=(h.keys k hk).2;omega⟩
theorem wL{n:Nd}(h:Right n):Dx n=true:=by unfold Dx;rw[h.form];simp
theorem vu{n:Nd}{i:Nat}{key:Key}{us:List Int}(h:lW n)(hk:key.length<=1000000)(hk2:n.ks.length<=100)(we:n.vs.length<=100)(hu:us.length<=100):lW (fV n i key us):=by
 refine⟨by simp[fV];omega,by simp[fV];split<;>omega,fun k hk'=>?_⟩;simp only[fV,List.mem_append,List.mem_cons]at hk';rcases hk' with hk'|rfl|hk'
 ·exact h.keys k (List.mem_of_mem_take hk')
 ·exact hk
 ·exact h.keys k (List.mem_of_mem_drop hk')
end Go.Av
namespace Go.aW
open Go.Av
open Go.cI (Nd rB l_)
theorem JZ{b:Nat}{D:aU}(h:eu b D)(a:Int):eu b (fF D a).1/\(fF D a).1.kept=D.kept/\(fF D a).1.now=D.now:=by
 have h1:=h.read a 8;have h2:(D.read a 8).1.kept=D.kept/\(D.read a 8).1.now=D.now:=by
  unfold aU.read;split
  ·split<;>(unfold aU.next;split<;>simp)
  ·simp
 unfold fF;split<;>exact⟨h1,h2⟩
theorem ic.dev{t:Nat}{s:St}(h:ic t s){t':Nat}(ht:t<=t'){D:aU}(hD:eu (t'*t') D)(hk:D.kept.length=s.D.kept.length):ic t' {s with D:=D}:={h.up ht with D:=hD,sz:=by simp only[hk];exact h.sz,J0:=by simp only[hk];exact h.J0}
structure fq(t:Nat)(c:Cs):Prop where
 s:ic t c.s
 saved:c.saved.length<=t
 sav:∀p∈c.saved,0<=p/\p<=65536
 old:c.old.length<=t
 olb:∀p∈c.old,-9223372036854775808<=p/\p<=9223372036854775807
theorem fq.up{t t':Nat}{c:Cs}(h:fq t c)(ht:t<=t'):fq t' c:=⟨h.s.up ht,Nat.le_trans h.saved ht,h.sav,Nat.le_trans h.old ht,h.olb⟩
theorem fq.ld{t:Nat}{c:Cs}(h:fq t c)(p:Int):fq t (c.ld p).1:=by
 have key:fq t (c.dev (fF c.s.D (vq c.s.jn (p-1))).1):=by
  obtain⟨h1,h2,_⟩:=JZ h.s.D (vq c.s.jn (p-1));exact{h with s:=h.s.dev (Nat.le_refl _) h1 (by rw[h2])}
 unfold Cs.ld;split
 ·exact h
 ·split
  ·split<;>exact key
  ·exact key
theorem fq.dr{t:Nat}{c:Cs}(h:fq t c)(p:Int):fq (t+1) (c.dr p):=by
 have h':=h.up (Nat.le_add_right t 1);refine⟨h'.s,h'.saved,h'.sav,by have:=h.old;simp[Cs.dr];omega,fun q hq=>?_⟩;simp only[Cs.dr,List.mem_append,List.mem_singleton]at hq;rcases hq with hq|rfl
 ·exact h.olb q hq
 ·exact sZ _
theorem G0(b:List UInt8):(kS b).2.1.length<=b.length/\-9223372036854775808<=(kS b).2.2/\(kS b).2.2<=9223372036854775807:=by
 have ho:(dP b).1.length<=b.length:=by
  unfold dP;split
  ·simp
  ·split
   ·simp
   ·simp
 unfold kS;split
 ·simp
 ·simp only;split
  ·simp
  ·simp;omega
theorem G1{b:Nat}{D:aU}(h:eu b D)(a:Int):(fF D a).2.2.1.length<=4194304:=by
 obtain⟨r1,r2⟩:=Go.Av.yS D b h a 8;unfold fF;split
 ·have h1:=(G0 (D.read a 8).2.1.flatten).1;rw[Go.Av.BB _ r1]at h1;simp only;omega
 ·simp
end Go.aW
namespace Go.Av
open Go.Proofs Go.aW
open Go.cI (Nd rB l_)
theorem OP(b:List UInt8)(hb:b.length<=9223372036854775807):aB Tryz.prog 431 [cy b] (.tp [yq (nD b).1,.int (nD b).2]):=by
 have h:=J2 b hb;unfold upP at h;unfold nD;by_cases c:u9 (gq (b,false) 1).1 (qU (gq (gq (b,false) 1).2 1).1 (gq (gq (b,false) 1).2 1).2).1 (Fs (gq (b,false) 1).1 (gq (gq (b,false) 1).2 1).1 (qU (gq (gq (b,false) 1).2 1).1 (gq (gq (b,false) 1).2 1).2).2).1 (Fs (gq (b,false) 1).1 (gq (gq (b,false) 1).2 1).1 (qU (gq (gq (b,false) 1).2 1).1 (gq (gq (b,false) 1).2 1).2).2).2=true
 ·rw[if_pos c]at h⊢;exact h
 ·rw[if_neg c]at h⊢;exact h
theorem OQ(t:Nat)(c:Cs)(h:fq t c)(p:Int)(hp:-9223372036854775808<=p/\p<=9223372036854775807):aI Tryz.prog 428 [.obj 7 0,.p (.int p)] ⟨qL 0 8 c,jG 8,20⟩ (.agg true [.p (yq (c.ld p).2.1),.p (.int (c.ld p).2.2)]) ⟨qL 0 20 (c.ld p).1,jG 20,32⟩:=by
 obtain⟨Z,hZ⟩:∃Z,c.ld p=Z:=⟨_,rfl⟩;rw[hZ];unfold Cs.ld at hZ;refine QgQ (rs:=[_,_]) [] [(3,[(3,.r 1),(7,.r 2),(11,.r 1),(14,.r 2),(15,.w [1,2]),(20,.w [1,2])])] [(1,7),(2,6)] Tryz.func428 rfl (by simp[Tryz.ntmps428]) ?_;by_cases c1:p<1
 ·rw[if_pos (.inl c1)]at hZ;rw[<-hZ];simp[-aD,bF,qL,yT,aC,ax,bZ,bT,bP,b_,c1,l_,Tryz.results428];exact⟨[(20,8),(21,9),(22,10),(23,11),(24,12),(25,13),(26,14),(27,15),(28,16),(29,17),(30,18),(31,19)],by simp⟩
 by_cases c2:c.s.pn<p
 ·rw[if_pos (.inr c2)]at hZ;rw[<-hZ];simp[-aD,bF,qL,yT,aC,ax,bZ,bT,bP,b_,c1,c2,l_,Tryz.results428];exact⟨[(20,8),(21,9),(22,10),(23,11),(24,12),(25,13),(26,14),(27,15),(28,16),(29,17),(30,18),(31,19)],by simp⟩
 rw[if_neg (by omega)]at hZ;have Oa:=h.s.pn;have hjn:=h.s.jn;have w1:IntKind.i64.wrap (p-1)=p-1:=af (by omega) (by omega);have w2:IntKind.i64.wrap ((p-1)*8)=(p-1)*8:=af (by omega) (by omega);have w3:IntKind.i64.wrap (1+c.s.jn+(p-1)*8)=1+c.s.jn+(p-1)*8:=af (by omega) (by omega);have DK:=vY c.s.jn c.s.pn (by omega);have hrd:=J3 c.s.D (t*t) h.s.D (1+c.s.jn+(p-1)*8) (by omega);have mg:=G1 h.s.D (vq c.s.jn (p-1));rw[show 1+c.s.jn+(p-1)*8=vq c.s.jn (p-1)from rfl]at hrd;obtain⟨R,hR⟩:∃R,fF c.s.D (vq c.s.jn (p-1))=R:=⟨_,rfl⟩;rw[hR]at hrd hZ mg;obtain⟨D',kind,b,e⟩:=R;simp only at hrd hZ mg;have hU:=OP b (by omega);obtain⟨U,hUe⟩:∃U,nD b=U:=⟨_,rfl⟩;rw[hUe]at hU hZ;obtain⟨n,e2⟩:=U;simp only at hU hZ;simp[bF,qL,yT,aC,ax,bZ,bT,bP,b_,c1,c2];refine ak [0] DK (by simp) (by simp) (by simp) (by simp) ?_;simp[w1,w2,w3];refine ak [0,1,2,8] hrd (by simp) (by simp[vq]) (by simp[ay,ax]) (by simp[ay]) ?_;by_cases c3:e=0
 ·subst c3;rw[if_pos rfl]at hZ;simp[ax];refine ai hU (by simp) ?_;by_cases c4:e2=0
  ·subst c4;rw[if_pos rfl]at hZ;rw[<-hZ];simp[-aD,Cs.dev,Tryz.results428];exact⟨[(20,21),(21,9),(22,10),(23,11),(24,12),(25,13),(26,14),(27,15),(28,16),(29,17),(30,18),(31,19)],by simp⟩
  ·rw[if_neg c4]at hZ;rw[<-hZ];have jU:(e2 !=0)=true:=by simpa using c4
   simp[-aD,Cs.dev,Tryz.results428,jU,l_];exact⟨[(20,21),(21,9),(22,10),(23,11),(24,12),(25,13),(26,14),(27,15),(28,16),(29,17),(30,18),(31,19)],by simp⟩
 ·rw[if_neg c3]at hZ;rw[<-hZ];have lq:(e !=0)=true:=by simpa using c3
  simp[-aD,Cs.dev,ax,Tryz.results428,lq,l_];exact⟨[(20,21),(21,9),(22,10),(23,11),(24,12),(25,13),(26,14),(27,15),(28,16),(29,17),(30,18),(31,19)],by simp⟩
end Go.Av
namespace Go.aW
open Go.Av
def seg(L:List cU)(a n:Nat):List cU:=(L.drop a).take n
def ov(L:List cU)(a:Nat)(l:List cU):List cU:=L.take a++(l++L.drop (a+l.length))
theorem pK(L:List cU)(a n i:Nat):(seg L a n)[i]?=if i<n then L[a+i]? else none:=by
 unfold seg;rw[List.getElem?_take];split
 ·rw[List.getElem?_drop]
 ·rfl
theorem lX{L l:List cU}{a:Nat}(h:a+l.length<=L.length):(ov L a l).length=L.length:=by simp[ov];omega
theorem A7{L l:List cU}{a:Nat}(h:a+l.length<=L.length)(i:Nat):(ov L a l)[i]?=if i<a then L[i]? else if i<a+l.length then l[i-a]? else L[i]?:=by
 unfold ov;by_cases c1:i<a
 ·rw[if_pos c1,List.getElem?_append_left (by simp;omega),List.getElem?_take,if_pos c1]
 ·rw[if_neg c1,List.getElem?_append_right (by simp;omega)];have e:(L.take a).length=a:=by simp;omega
  rw[e];by_cases c2:i<a+l.length
  ·rw[if_pos c2,List.getElem?_append_left (by omega)]
  ·rw[if_neg c2,List.getElem?_append_right (by omega),List.getElem?_drop];congr 1;omega
theorem fe{L l:List cU}{a:Nat}(h:a+l.length<=L.length):seg (ov L a l) a l.length=l:=by
 apply List.ext_getElem?;intro i;rw[pK,A7 h];by_cases c:i<l.length
 ·rw[if_pos c,if_neg (by omega),if_pos (by omega)];congr 1;omega
 ·rw[if_neg c];exact(List.getElem?_eq_none (by omega)).symm
theorem bG{L l:List cU}{a b n:Nat}(h:a+l.length<=L.length)(hb:b+n<=a\/a+l.length<=b):seg (ov L a l) b n=seg L b n:=by
 apply List.ext_getElem?;intro i;rw[pK,pK,A7 h];by_cases c:i<n
 ·rw[if_pos c,if_pos c];rcases hb with hb|hb
  ·rw[if_pos (by omega)]
  ·rw[if_neg (by omega),if_neg (by omega)]
 ·rw[if_neg c,if_neg c]
theorem lC(L:List cU)(a m n:Nat):seg L a (m+n)=seg L a m++seg L (a+m) n:=by
 unfold seg;rw[List.take_add,List.drop_drop]
theorem Pr{L:List cU}{a n:Nat}(h:a+n<=L.length):(seg L a n).length=n:=by simp[seg];omega
theorem vH(L:List cU)(a n b m:Nat)(h:b+m<=n):seg (seg L a n) b m=seg L (a+b) m:=by
 apply List.ext_getElem?;intro i;rw[pK,pK,pK];by_cases c:i<m
 ·rw[if_pos c,if_pos c,if_pos (by omega)];congr 1;omega
 ·rw[if_neg c,if_neg c]
theorem EG(L:List cU)(a:Nat)(b:cU)(l:List cU)(h:a+1+l.length<=L.length):ov (L.set a b) (a+1) l=ov L a (b::l):=by
 apply List.ext_getElem?;intro i;rw[A7 (by simp;omega),A7 (by simp;omega),List.length_cons];by_cases c1:i<a
 ·rw[if_pos (by omega),if_pos c1,List.getElem?_set_ne (by omega)]
 ·by_cases c2:i=a
  ·subst c2;rw[if_pos (by omega),if_neg c1,if_pos (by omega),List.getElem?_set_self (by omega)];simp
  ·rw[if_neg (by omega),if_neg c1];by_cases c3:i<a+1+l.length
   ·rw[if_pos c3,if_pos (by omega)];obtain⟨j,rfl⟩:∃j,i=a+1+j:=⟨i-(a+1),by omega⟩;rw[show a+1+j-(a+1)=j by omega,show a+1+j-a=j+1 by omega,List.getElem?_cons_succ]
   ·rw[if_neg c3,if_neg (by omega),List.getElem?_set_ne (by omega)]
theorem EF(L:List cU)(a:Nat):ov L a []=L:=by simp[ov]
structure Gd(N:Nat)(D:aU):Prop where
 left:D.left=-1
 bad:D.bad=[]
 kl:D.kept.length=N
 nl:D.now.length=N
 n:-9223372036854775808<=D.n/\D.n<=9223372036854775807
 k64:∀s∈D.kept,s.length=64
 n64:∀s∈D.now,s.length=64
 qs:∀w∈D.q,w.1<N/\w.2.length=64
 inv:∀i,(∀w∈D.q,w.1≠i)->D.kept[i]?=D.now[i]?
theorem Gd.DZ{N b:Nat}{D:aU}(h:Gd N D)(hN:1<=N/\N<=65536)(hq:D.q.length<=b):eu b D:=⟨h.nl.trans h.kl.symm,by rw[h.kl];exact hN.1,by rw[h.kl];exact hN.2,h.k64,h.n64,hq,fun w hw=>by rw[h.kl];exact h.qs w hw,by rw[h.left];omega,h.n,by rw[h.bad];simp⟩
theorem Gd.next{N:Nat}{D:aU}(h:Gd N D):D.next.2=0/\Gd N D.next.1/\D.next.1.now=D.now/\D.next.1.kept=D.kept/\D.next.1.q=D.q:=by
 have hl:=h.left;have hb:=h.bad;unfold aU.next;rw[if_neg (by omega)];have hw:=sZ (D.n+1);refine⟨by simp[hb],⟨by simp only;rw[if_pos (by omega)],hb,h.kl,h.nl,hw,h.k64,h.n64,h.qs,h.inv⟩,rfl,rfl,rfl⟩
theorem Gd.lay{N:Nat}:∀(l:List cU) (a:Nat) {D:aU},Gd N D->a+l.length<=N->(∀s∈l,s.length=64)->Gd N (D.lay a l)/\(D.lay a l).now=ov D.now a l/\(D.lay a l).kept=D.kept/\(D.lay a l).q.length=D.q.length+l.length
 |[],a,D,h,_,_=>⟨h,(EF _ _).symm,rfl,rfl⟩
 |b::l,a,D,h,ha,hl=>by
  rw[List.length_cons]at ha;have h':Gd N {D with q:=D.q++[(a,b)],now:=D.now.set a b}:=by
   refine⟨h.left,h.bad,h.kl,by simp[h.nl],h.n,h.k64,fun s hs=>?_,fun w hw=>?_,fun i hi=>?_⟩
   ·rcases List.mem_or_eq_of_mem_set hs with hs|rfl
    ·exact h.n64 s hs
    ·exact hl _ (by simp)
   ·rcases List.mem_append.1 hw with hw|hw
    ·exact h.qs w hw
    ·simp at hw;subst hw;exact⟨by omega,hl _ (by simp)⟩
   ·have hia:a≠i:=by have:=hi (a,b) (by simp);simpa using this
    rw[List.getElem?_set_ne hia];exact h.inv i fun w hw=>hi w (by simp[hw])
  obtain⟨k1,k2,k3,k4⟩:=Gd.lay l (a+1) h' (by omega) (fun s hs=>hl s (by simp[hs]));refine⟨k1,?_,k3,?_⟩
  ·show(aU.lay _ (a+1) l).now=_;rw[k2];exact EG _ _ _ _ (by rw[h.nl];omega)
  ·show(aU.lay _ (a+1) l).q.length=_;rw[k4];simp;omega
theorem Gd.there{N:Nat}{D:aU}(h:Gd N D){a n:Nat}(ha:a+n<=N):D.there a n=true:=by
 unfold aU.there;rw[h.kl];simp only[Bool.and_eq_true,decide_eq_true_eq];omega
theorem Gd.write{N:Nat}{D:aU}(h:Gd N D){a:Nat}{l:List cU}(ha:a+l.length<=N)(hl:∀s∈l,s.length=64):(D.write a l).2=0/\Gd N (D.write a l).1/\(D.write a l).1.now=ov D.now a l/\(D.write a l).1.kept=D.kept/\(D.write a l).1.q.length=D.q.length+l.length:=by
 obtain⟨h1,h2,h3,h4,h5⟩:=h.next;unfold aU.write;rw[if_pos ⟨h.there ha,by rw[List.all_eq_true];intro b hb;simp[hl b hb]⟩,if_pos h1];obtain⟨k1,k2,k3,k4⟩:=Gd.lay l a h2 ha hl;refine⟨rfl,?_,?_,?_,?_⟩
 ·simpa using k1
 ·simp only[Int.toNat_natCast];rw[k2,h3]
 ·simp only[Int.toNat_natCast];rw[k3,h4]
 ·simp only[Int.toNat_natCast];rw[k4,h5]
theorem Gd.read{N:Nat}{D:aU}(h:Gd N D){a n:Nat}(ha:a+n<=N):(D.read a n).2=(seg D.now a n,0)/\Gd N (D.read a n).1/\(D.read a n).1.now=D.now/\(D.read a n).1.kept=D.kept/\(D.read a n).1.q=D.q:=by
 obtain⟨h1,h2,h3,h4,h5⟩:=h.next;unfold aU.read;rw[if_pos (h.there ha),if_pos h1];exact⟨rfl,h2,h3,h4,h5⟩
theorem uL(now:List cU):∀(q:List (Nat×cU)) (k:List cU),k.length=now.length->(∀w∈q,w.1<now.length)->(∀i,(∀w∈q,w.1≠i)->k[i]?=now[i]?)->dw now q k=now
 |[],k,_,_,h=>List.ext_getElem? fun i=>h i (by simp)
 |w::q,k,hl,hq,h=>by
  unfold dw;refine uL now q _ (by simpa using hl) (fun v hv=>hq v (by simp[hv])) fun i hi=>?_;have hw:=hq w (by simp);by_cases c:w.1=i
  ·subst c;rw[List.getElem?_set_self (by omega)];simp[List.getD,hw]
  ·rw[List.getElem?_set_ne c];refine h i fun v hv=>?_;rcases List.mem_cons.1 hv with rfl|hv
   ·exact c
   ·exact hi v hv
theorem Gd.flush{N:Nat}{D:aU}(h:Gd N D):D.flush.2=0/\Gd N D.flush.1/\D.flush.1.now=D.now/\D.flush.1.kept=D.now/\D.flush.1.q=[]:=by
 obtain⟨h1,h2,h3,h4,h5⟩:=h.next;unfold aU.flush;rw[if_pos h1];have hs:dw D.next.1.now D.next.1.q D.next.1.kept=D.next.1.now:=uL _ _ _ (h2.kl.trans h2.nl.symm) (fun w hw=>by rw[h2.nl];exact(h2.qs w hw).1) h2.inv;refine⟨rfl,⟨h2.left,h2.bad,?_,h2.nl,h2.n,?_,h2.n64,by simp[aU.settle],?_⟩,h3,?_,rfl⟩
 ·simp only[aU.settle];rw[hs];exact h2.nl
 ·simp only[aU.settle];rw[hs];exact h2.n64
 ·intro i _;simp only[aU.settle];rw[hs]
 ·simp only[aU.settle];rw[hs,h3]
theorem Gd.same{N:Nat}{D:aU}(h:Gd N D)(hq:D.q=[]):D.kept=D.now:=List.ext_getElem? fun i=>h.inv i (by rw[hq];simp)
theorem Gd.iH{N:Nat}{D:aU}(h:Gd N D)(hq:D.q=[]):Gd N D.iH/\D.iH.now=D.now/\D.iH.q=[]:=by
 have hs:=h.same hq;unfold aU.iH;rw[hq];refine⟨⟨rfl,rfl,h.kl,?_,by simp,h.k64,?_,by simp,?_⟩,rfl,rfl⟩
 ·exact h.nl
 ·exact h.n64
 ·intro i _;exact h.inv i (by rw[hq];simp)
theorem Gd.made{N:Nat}:Gd N (aU.made N):=by
 refine⟨rfl,rfl,by simp[aU.made],by simp[aU.made],by simp[aU.made],fun s hs=>?_,fun s hs=>?_,by simp[aU.made],fun i _=>rfl⟩
 ·simp[aU.made]at hs;rw[hs.2];simp[Go.Av.qg]
 ·simp[aU.made]at hs;rw[hs.2];simp[Go.Av.qg]
def La:Kn:=⟨[],0,0,[]⟩
def atC(ix:List Kn)(key:List UInt8)(i:Nat):Int:=Hz (ix.getD i La).key key
def sY(ix:List Kn)(key:List UInt8):Nat:=yw (atC ix key) ix.length 0 ix.length
def DI(ix:List Kn)(key:List UInt8):Bool:=decide (sY ix key<ix.length)&&(atC ix key (sY ix key)==0)
def ry:Nat->Nat->Nat->Nat->Nat
 |0,_,_,d=>d
 |f+1,n,k,d=>if k<n+1 then ry f n (k*2) (d+1)else d
def depth(n:Nat):Nat:=ry (n+1) n 1 1
theorem zc(n:Nat):∀(a b k d:Nat),1<=k->n+1<=k+a->n+1<=k+b->ry a n k d=ry b n k d
 |0,0,_,_,_,_,_=>rfl
 |0,b+1,k,d,h,h1,h2=>by unfold ry;rw[if_neg (by omega)]
 |a+1,0,k,d,h,h1,h2=>by unfold ry;rw[if_neg (by omega)]
 |a+1,b+1,k,d,h,h1,h2=>by
  unfold ry;split
  ·exact zc n a b _ _ (by omega) (by omega) (by omega)
  ·rfl
end Go.aW
namespace Go.Av
open Go.Proofs Go.aW
theorem rP(x:Kn)(L:List Kn):w_ (x::L)=PC.str x.key::PC.int x.order::PC.int x.place::PC.sl (x.body.map gS)::w_ L:=rfl
theorem FV(L M:List Kn):w_ (L++M)=w_ L++w_ M:=by simp[w_]
@[simp]theorem akK(L:List Kn):(w_ L).length=L.length*4:=by
 induction L with
 |nil=>rfl
 |cons x L ih=>rw[rP];simp[ih];omega
theorem PE(l:List Kn):(l.map PF).flatMap aV=(w_ l).map AV.p:=by
 induction l with
 |nil=>rfl
 |cons x l ih=>rw[rP,List.map_cons,List.flatMap_cons,ih];rfl
theorem Wg(bx:List (Nat×Ob))(k id:Nat)(l:List Kn)(h:lk id bx=some (bP l)):cQ bx (k+1) (.view id 0 l.length 4 none) (.sl (l.map PF)):=by
 refine⟨_,h,by omega,by simp,by simp[bP],?_,?_,?_⟩
 ·rw[PE];simp only[Nat.zero_mul,List.drop_zero,bP];exact List.take_of_length_le (by simp)
 ·intro y hy;obtain⟨x,_,rfl⟩:=List.mem_map.1 hy;rfl
 ·intro y hy;obtain⟨x,_,rfl⟩:=List.mem_map.1 hy;rfl
theorem Vz(s:St)(hl:s.ix.length<=1000000)(key:List UInt8):aI Tryz.prog 61 [.obj 6 0,.p (.str key)] ⟨[(6,bT 0 7 s),(15,bP s.ix)],[],17⟩ (.agg true [.p (.int (sY s.ix key)),.p (.bool (DI s.ix key))]) ⟨[(6,bT 0 7 s),(15,bP s.ix)],[],17⟩:=by
 have hb:aB Tryz.prog 154 [.sl (s.ix.map PF),.str key,.fn (.func 155) []] (.tp [.int (sY s.ix key),.bool (DI s.ix key)]):=D_ 155 key (fun k=>Hz k.key key) s.ix hl (fun x _=>agX x key) (atC s.ix key) (fun i h=>by simp[atC,List.getD,h]);refine QgQ (rs:=[_,_]) [] [] [] Tryz.func61 rfl (by simp[Tryz.ntmps61]) ?_;simp[bT];refine ze 1 hb ⟨Wg _ 0 15 s.ix (by simp[lk]),⟨_,rfl,.inl rfl⟩,⟨_,rfl,.inl rfl⟩,trivial⟩ rfl ?_;simp[-aD,Tryz.results61];exact⟨[],by simp[bP]⟩
theorem Pc(s:St)(hl:s.ix.length<=1000000):aI Tryz.prog 88 [.obj 6 0] ⟨[(6,bT 0 7 s),(15,bP s.ix)],[],17⟩ (.p (.int (depth s.ix.length))) ⟨[(6,bT 0 7 s),(15,bP s.ix)],[],17⟩:=by
 refine QgQ (rs:=[_]) [] [] [] Tryz.func88 rfl (by simp[Tryz.ntmps88]) ?_;simp[bT];obtain⟨n,hn⟩:∃n,s.ix.length=n:=⟨_,rfl⟩;rw[hn]at hl;refine aN (fun kd:Nat×Nat=>1<=kd.1/\kd.1<=4000000/\kd.2<=kd.1/\ry (n+1) n kd.1 kd.2=depth n) (fun kd=>[(0,.obj 6 0),(4,.p (.int kd.1)),(3,.p (.int kd.2))]) (fun _=>⟨[(6,bT 0 7 s),(15,bP s.ix)],[],17⟩) (fun kd=>n+1-kd.1) (1,1) (by simp[depth]) _ (AS.le_refl _ _) (aA (by simp[bT,bP])) ?_;rintro⟨k,d⟩ ⟨h1,h2,h3,h4⟩;simp only at h1 h2 h3 h4;have w1:IntKind.i64.wrap ((n:Int)+1)=((n+1:Nat):Int):=by rw[af (by omega) (by omega)];rfl
 by_cases c:k<n+1
 ·have w2:IntKind.i64.wrap ((k:Int)*2)=((k*2:Nat):Int):=by rw[af (by omega) (by omega)];omega
  have w3:IntKind.i64.wrap ((d:Int)+1)=((d+1:Nat):Int):=by rw[af (by omega) (by omega)];rfl
  have c':(k:Int)<(n:Int)+1:=by omega
  have h5:ry (n+1) n (k*2) (d+1)=depth n:=by
   rw[<-h4]
   conv=>rhs;unfold ry
   rw[if_pos c];exact zc n _ _ _ _ (by omega) (by omega) (by omega)
  simp[bT,hn,w1,w2,w3,c'];exact⟨k*2,d+1,⟨by omega,by omega,by omega,h5⟩,by omega,aA (by simp[bP])⟩
 ·have c':¬((k:Int)<(n:Int)+1):=by omega
  have h5:d=depth n:=by
   rw[<-h4];unfold ry;rw[if_neg c]
  simp[-aD,bT,hn,w1,c',Tryz.results88];exact⟨[],by simp[bP,h5]⟩
end Go.Av
namespace Go.aW
open Go.Av
def ql:eG:=⟨[],[],[],⟨[],[],0,[],0⟩,[],0,0,0,0,0,[]⟩
def sW(b:List UInt8):Int:=cK (b.take 2)+2
def z7(b:List UInt8):List UInt8:=(dP (b.take (sW b+4).toNat)).1.drop 2
def OM(un:List UInt8->eG×Int)(b:List UInt8):eG×Int:=if(b.length:Int)<sW b+4 then(ql,33)else if(dP (b.take (sW b+4).toNat)).2=0 then(if(un (z7 b)).2=0 then un (z7 b)else(ql,33))else(ql,33)
def St.dev(s:St)(D:aU):St:={s with D:=D}
def St.read(un:List UInt8->eG×Int)(s:St)(x:Int×Int):St×eG×Int:=(s.dev (s.D.read (cG s.jn s.pn+x.1) x.2).1,if(s.D.read (cG s.jn s.pn+x.1) x.2).2.2=2 then(ql,33)else if(s.D.read (cG s.jn s.pn+x.1) x.2).2.2=0 then OM un (s.D.read (cG s.jn s.pn+x.1) x.2).2.1.flatten else(ql,(s.D.read (cG s.jn s.pn+x.1) x.2).2.2))
def DO(un:List UInt8->eG×Int)(o:List UInt8):Prop:=aB Go.Proofs.Tryz.prog 159 [cy o] (.tp [dY (un o).1,.int (un o).2])
theorem Y5(b:List UInt8)(h:b.length<=2):0<=cK b/\cK b<65536:=by
 have h1:=zY b.length b rfl;have h2:256^b.length<=256^2:=Nat.pow_le_pow_right (by omega) h;have h3:(256:Nat)^2=65536:=rfl;unfold cK;rw[af (by omega) (by omega)];omega
theorem sV{L:List cU}(h:∀s∈L,s.length=64):L.flatten.length=L.length*64:=by
 induction L with
 |nil=>rfl
 |cons a L ih=>
  rw[List.flatten_cons,List.length_append,ih (fun s hs=>h s (by simp[hs])),h a (by simp),List.length_cons];omega
theorem Gp{b:Nat}{D:aU}(h:eu b D)(a n:Int):(D.read a n).2.1.length<=65536/\∀s∈(D.read a n).2.1,s.length=64:=by
 have h1:=h.len;have h2:=h.top;unfold aU.read;split
 ·split
  ·exact⟨by simp;omega,fun s hs=>h.now s (List.mem_of_mem_drop (List.mem_of_mem_take hs))⟩
  ·simp
 ·simp
theorem IK(b:List UInt8)(h:(dP b).2=0):(dP b).1.length=b.length-4:=by
 unfold dP at h⊢;split
 ·rename_i c;rw[if_pos c]at h;simp at h
 ·rename_i c;rw[if_neg c]at h;split
  ·simp
  ·rename_i c2;rw[if_neg c2]at h;simp at h
end Go.aW
namespace Go.Av
open Go.Proofs Go.aW
theorem Mq(un:List UInt8->eG×Int)(t:Nat)(s:St)(h:ic t s)(x:Int×Int)(hx:0<=x.1/\x.1<=4000000)(hu:DO un (z7 (s.D.read (cG s.jn s.pn+x.1) x.2).2.1.flatten)):aI Tryz.prog 62 [.obj 6 0,.p (gS x)] ⟨bF 0 7 s,eR 7,17⟩ (.agg true [.p (dY (s.read un x).2.1),.p (.int (s.read un x).2.2)]) ⟨bF 0 17 (s.read un x).1,eR 17,27⟩:=by
 obtain⟨Z,hZ⟩:∃Z,s.read un x=Z:=⟨_,rfl⟩;rw[hZ];unfold St.read at hZ;refine QgQ (rs:=[_,_]) [] [(1,[(4,.r 1),(8,.r 1),(9,.w [1]),(15,.w [1])])] [(1,6)] Tryz.func62 rfl (by simp[Tryz.ntmps62]) ?_;have Oa:=h.pn;have hjn:=h.jn;have vb:cG s.jn s.pn=1+s.jn+s.pn*8:=rfl;have w3:IntKind.i64.wrap (cG s.jn s.pn+x.1)=cG s.jn s.pn+x.1:=af (by omega) (by omega);have sN:=tC s.jn s.pn (by omega) (by omega);have hrd:=xL s.D (t*t) h.D (cG s.jn s.pn+x.1) x.2 (by omega);obtain⟨R,hR⟩:∃R,s.D.read (cG s.jn s.pn+x.1) x.2=R:=⟨_,rfl⟩;have GX:R.2.1.flatten.length<=1000000000/\R.2.1.length<=1000000000:=by
  have:=Gp h.D (cG s.jn s.pn+x.1) x.2;rw[hR]at this;have h2:=sV this.2;omega
 rw[hR]at hrd hZ hu;obtain⟨D',L,e⟩:=R;simp only at hrd hZ hu GX;simp[bF,aC,ax,bZ,bT,bP,b_];refine ak [0] sN (by simp) (by simp) (by simp) (by simp) ?_;simp[w3];refine ak [0,1,2,7] hrd (by simp) (by simp) (by simp[ay,ax]) (by simp[ay]) ?_;by_cases c1:e=2
 ·subst c1;rw[if_pos rfl]at hZ;rw[<-hZ];simp[-aD,ax,St.dev,ql,Tryz.results62];exact⟨[(17,18),(18,8),(19,9),(20,10),(21,11),(22,12),(23,13),(24,14),(25,15),(26,16)],by simp⟩
 rw[if_neg c1]at hZ;have jH:(e==2)=false:=by simpa using c1
 by_cases c2:e=0
 ·subst c2;rw[if_pos rfl]at hZ;have hj:=AW L (by omega) (by omega);obtain⟨b,hb⟩:∃b,L.flatten=b:=⟨_,rfl⟩;rw[hb]at hZ hu hj GX;have Vy:(b.take 2).length<=2:=by simp;omega
  have hn2:=tw (b.take 2) (by omega);have hw2:=Y5 (b.take 2) Vy;obtain⟨m,hm⟩:∃m:Nat,min 2 b.length=m:=⟨_,rfl⟩;have hmn:(if(b.length:Int)<2 then(b.length:Int)else 2)=(m:Int):=by split<;>omega
  have lZ:List.take m (ah b)=ah (b.take 2):=by
   rw[<-hm];simp only[ah,<-List.map_take];congr 1;by_cases c:2<=b.length
   ·rw[Nat.min_eq_left c]
   ·rw[Nat.min_eq_right (by omega),List.take_of_length_le (Nat.le_refl _),List.take_of_length_le (by omega)]
  have Wj:sW b=cK (b.take 2)+2:=rfl;have w4:IntKind.i64.wrap (cK (b.take 2)+2)=sW b:=af (by omega) (by omega);have w5:IntKind.i64.wrap (sW b+4)=sW b+4:=af (by omega) (by omega);simp[ax];refine ai hj (by simp) ?_;simp[hmn,lZ];refine⟨fun y h=>(cg _ y h).symm,by omega,ai hn2 (by simp) ?_⟩;unfold OM at hZ;by_cases c3:(b.length:Int)<sW b+4
  ·rw[if_pos c3]at hZ;rw[<-hZ];simp[-aD,w4,w5,c3,St.dev,ql,Tryz.results62];exact⟨[(17,18),(18,8),(19,9),(20,10),(21,11),(22,12),(23,13),(24,14),(25,15),(26,16)],by simp⟩
  ·rw[if_neg c3]at hZ;obtain⟨q,hq⟩:∃q:Nat,(sW b+4).toNat=q:=⟨_,rfl⟩;have hq2:sW b+4=(q:Int):=by omega
   have hO:=AQ (b.take q) (by simp;omega);have yt:=IK (b.take q);unfold z7 at hu hZ;rw[hq]at hu hZ;obtain⟨O,hOe⟩:∃O,dP (b.take q)=O:=⟨_,rfl⟩;rw[hOe]at hu hZ hO yt;obtain⟨o,eo⟩:=O;simp only at hu hZ hO yt;simp[w4,w5,c3];refine⟨fun y h=>(cg _ y h).symm,by omega,by omega,?_⟩;rw[hq];refine ai hO (by simp[ah]) ?_;by_cases c4:eo=0
   ·subst c4;rw[if_pos rfl]at hZ;obtain⟨U,hU⟩:∃U,un (o.drop 2)=U:=⟨_,rfl⟩;unfold DO at hu;rw[hU]at hu hZ;obtain⟨ue,uc⟩:=U;simp only at hu hZ;have hoo:2<=o.length:=by
     have:=yt rfl;rw[this,List.length_take];omega
    simp;refine⟨fun y h=>(cg _ y h).symm,hoo,?_⟩;refine ai hu (by simp[ah]) ?_;by_cases c5:uc=0
    ·subst c5;rw[if_pos rfl]at hZ;rw[<-hZ];simp[-aD,St.dev,Tryz.results62];exact⟨[(17,18),(18,8),(19,9),(20,10),(21,11),(22,12),(23,13),(24,14),(25,15),(26,16)],by simp⟩
    ·rw[if_neg c5]at hZ;rw[<-hZ];have pP:(uc !=0)=true:=by simpa using c5
     simp[-aD,St.dev,pP,ql,Tryz.results62];exact⟨[(17,18),(18,8),(19,9),(20,10),(21,11),(22,12),(23,13),(24,14),(25,15),(26,16)],by simp⟩
   ·rw[if_neg c4]at hZ;rw[<-hZ];have jU:(eo !=0)=true:=by simpa using c4
    simp[-aD,St.dev,jU,ql,Tryz.results62];exact⟨[(17,18),(18,8),(19,9),(20,10),(21,11),(22,12),(23,13),(24,14),(25,15),(26,16)],by simp⟩
 ·rw[if_neg c2]at hZ;rw[<-hZ];have dX:(e !=0)=true:=by simpa using c2
  simp[-aD,ax,St.dev,ql,jH,dX,Tryz.results62];exact⟨[(17,18),(18,8),(19,9),(20,10),(21,11),(22,12),(23,13),(24,14),(25,15),(26,16)],by simp⟩
end Go.Av
namespace Go.aW
open Go.Av
def St.get(un:List UInt8->eG×Int)(s:St)(key:List UInt8):St×eG×Bool×Int:=if DI s.ix key=true then
 (if(s.read un (s.ix.getD (sY s.ix key) La).dD).2.2=0 then((s.read un (s.ix.getD (sY s.ix key) La).dD).1,(s.read un (s.ix.getD (sY s.ix key) La).dD).2.1,true,0)
 else((s.read un (s.ix.getD (sY s.ix key) La).dD).1,ql,false,(s.read un (s.ix.getD (sY s.ix key) La).dD).2.2))else(s,ql,false,0)
theorem XD{k:Kn}(h:KOk k):(0<=k.dD.1/\k.dD.1<=4000000)/\0<=k.dD.2/\k.dD.2<256:=by
 have:=h.place;unfold Kn.dD;simp only;omega
theorem Mn{ix:List Kn}{key:List UInt8}(h:DI ix key=true):sY ix key<ix.length:=by
 unfold DI at h;simp at h;exact h.1
def St.J8(s:St)(x:Int×Int):List UInt8:=z7 (s.D.read (cG s.jn s.pn+x.1) x.2).2.1.flatten
end Go.aW
namespace Go.Av
open Go.Proofs Go.aW
theorem AF{l:List Kn}{i:Nat}(h:i<l.length):((w_ l).drop (i*4)).take 4=[PC.str l[i].key,.int l[i].order,.int l[i].place,.sl (l[i].body.map gS)]:=by
 induction l generalizing i with
 |nil=>simp at h
 |cons x l ih=>
  cases i with
  |zero=>simp[rP]
  |succ i=>
   have:=ih (i:=i) (by simpa using h);rw[rP,show(i+1)*4=i*4+1+1+1+1 by omega];simpa using this
theorem afG(un:List UInt8->eG×Int)(t:Nat)(s:St)(h:ic t s)(key:List UInt8)(hu:DI s.ix key=true->DO un (s.J8 (s.ix.getD (sY s.ix key) La).dD)):aI Tryz.prog 16 [.obj 6 0,.p (.str key)] ⟨bF 0 7 s,eR 7,17⟩ (.agg true [.p (dY (s.get un key).2.1),.p (.bool (s.get un key).2.2.1),.p (.int (s.get un key).2.2.2)]) ⟨bF 0 17 (s.get un key).1,eR 17,27⟩:=by
 obtain⟨Z,hZ⟩:∃Z,s.get un key=Z:=⟨_,rfl⟩;rw[hZ];unfold St.get at hZ;have ha:=Vz s h.ixl key;refine QgQ (rs:=[_,_,_]) [] [] [] Tryz.func16 rfl (by simp[Tryz.ntmps16]) ?_;simp[bF];refine ak [0,1,2,3,4,5,6,7,8,9,10,11,12,13,14,15,16] ha (by simp) (by simp) (by simp[ay,bT,bP]) (by simp) ?_;cases c1:DI s.ix key with
 |false=>
  rw[c1]at hZ;simp only[Bool.false_eq_true,if_false]at hZ;rw[<-hZ];simp[-aD,aC,ax,bZ,bT,bP,b_,ql,Tryz.results16];exact⟨[(17,7),(18,8),(19,9),(20,10),(21,11),(22,12),(23,13),(24,14),(25,15),(26,16)],by simp⟩
 |true=>
  rw[c1]at hZ;simp only[if_true]at hZ;have hi:=Mn c1;have hu:=hu c1;have hg:s.ix.getD (sY s.ix key) La=s.ix[sY s.ix key]:=by simp[List.getD,hi]
  rw[hg]at hZ hu;have hk:=h.ix _ (List.getElem_mem hi);generalize sY s.ix key=i at hi hZ hu hk;have DH:=CA s.ix[i] hk.place;have vf:=AF hi;obtain⟨K,hK⟩:∃K,s.ix[i]=K:=⟨_,rfl⟩;rw[hK]at hZ hu hk DH vf;have hrd:=Mq un t s h K.dD (XD hk).1 hu;obtain⟨R,hR⟩:∃R,s.read un K.dD=R:=⟨_,rfl⟩;rw[hR]at hZ hrd;obtain⟨s',e,c⟩:=R;simp only at hZ hrd;have hle:i*4+4<=s.ix.length*4:=by omega
  have Ln:List.take 4 (List.drop (i*4) (List.map AV.p (w_ s.ix)))=[.p (.str K.key),.p (.int K.order),.p (.int K.place),.p (.sl (K.body.map gS))]:=by
   rw[<-List.map_drop,<-List.map_take,vf];rfl
  simp[bT,bP,hi,hle,Ln];refine ai DH (by simp) ?_;simp;refine ak [0,1,2,3,4,5,6,7,8,9,10,11,12,13,14,15,16] hrd (by simp) (by simp) (by simp[ay,bF,aC,ax,bZ,bT,bP,b_]) (by simp[ay]) ?_;by_cases c5:c=0
  ·subst c5;rw[if_pos rfl]at hZ;rw[<-hZ];simp[-aD,bF,aC,ax,bZ,bT,bP,b_,Tryz.results16];exact⟨[(17,18),(18,19),(19,20),(20,21),(21,22),(22,23),(23,24),(24,25),(25,26),(26,27)],by simp⟩
  ·rw[if_neg c5]at hZ;rw[<-hZ];have pP:(c !=0)=true:=by simpa using c5
   simp[-aD,bF,aC,ax,bZ,bT,bP,b_,pP,ql,Tryz.results16];exact⟨[(17,18),(18,19),(19,20),(20,21),(21,22),(22,23),(23,24),(24,25),(25,26),(26,27)],by simp⟩
theorem Pq(a b:List (Int×Int))(ha:a.length<=1000000000000)(hb:b.length<=1000000000000):aB Tryz.prog 65 [.sl (a.map gS),.sl (b.map gS)] (.bool (decide (a=b))):=by
 refine QpQ (ys:=[.bool _]) [] [] [] Tryz.func65 rfl (by simp[Tryz.ntmps65]) ?_;by_cases c0:a.length=b.length
 ·have n0:((a.length:Int) !=(b.length:Int))=false:=by simp[c0]
  simp[n0];refine bW (fun k:Nat=>k<=a.length/\a.take k=b.take k) (fun k=>[(0,.p (.sl (a.map gS))),(1,.p (.sl (b.map gS))),(12,.p (.int a.length)),(13,.p (.int k))]) (fun k=>a.length-k) 0 (by simp) (aA (by simp)) ?_;rintro k ⟨h1,h2⟩;by_cases c1:k<a.length
  ·have c2:k<b.length:=by omega
   have w1:IntKind.i64.wrap ((k:Int)+1)=((k+1:Nat):Int):=by rw[af (by omega) (by omega)];rfl
   by_cases c3:a[k]=b[k]
   ·have c31:a[k].1=b[k].1:=by rw[c3]
    have c32:a[k].2=b[k].2:=by rw[c3]
    simp[c1,c2,w1,c31,c32];refine⟨k+1,⟨by omega,?_⟩,by omega,aA (by simp)⟩;rw[List.take_succ_eq_append_getElem c1,List.take_succ_eq_append_getElem c2,h2,c3]
   ·have hne:a≠b:=fun h=>c3 (by subst h;rfl);have n3:(!a[k].1==b[k].1||!a[k].2==b[k].2)=true:=by
     cases hh:(!a[k].1==b[k].1||!a[k].2==b[k].2)with
     |true=>rfl
     |false=>
      simp at hh;exact absurd (Prod.ext hh.1 hh.2) c3
    simp[c1,c2,n3,hne,Tryz.results65]
  ·have he:a=b:=by
    have e:k=a.length:=by omega
    subst e;rw[List.take_length]at h2;rw[h2,c0,List.take_length]
   subst he;simp[c1,Tryz.results65]
 ·have n0:((a.length:Int) !=(b.length:Int))=true:=by simp[bne];omega
  have hne:a≠b:=fun h=>c0 (by rw[h]);simp[n0,hne,Tryz.results65]
end Go.Av
namespace Go.aW
open Go.Av
def g_(r:Int):List (Int×Int)->aU->List UInt8->aU×List UInt8×Int
 |[],D,o=>(D,o,0)
 |e::l,D,o=>if(D.read (r+e.1) e.2).2.2=0 then g_ r l (D.read (r+e.1) e.2).1 (o++(D.read (r+e.1) e.2).2.1.flatten)else((D.read (r+e.1) e.2).1,[],(D.read (r+e.1) e.2).2.2)
def St.Ao(s:St)(x:eG):Bool:=DI s.ix (x.uri++10::x.var)&&(decide ((s.ix.getD (sY s.ix (x.uri++10::x.var)) La).order=x.order)&&(decide ((s.ix.getD (sY s.ix (x.uri++10::x.var)) La).body=x.body)&&(decide (x.size<=uF x.body)&&decide (0<=x.size))))
def St.body(s:St)(x:eG):St×List UInt8×Int:=if s.Ao x=true then
 (s.dev (g_ (cG s.jn s.pn) x.body s.D []).1,if(g_ (cG s.jn s.pn) x.body s.D []).2.2=0 then(if rO ((g_ (cG s.jn s.pn) x.body s.D []).2.1.take x.size.toNat)=x.sum then((g_ (cG s.jn s.pn) x.body s.D []).2.1.take x.size.toNat,0)else([],33))else([],(g_ (cG s.jn s.pn) x.body s.D []).2.2))else(s,[],2)
theorem XH{b:Nat}{D:aU}(h:eu b D)(a n:Int)(hz:(D.read a n).2.2=0):(D.read a n).2.1.length=n.toNat/\0<=n:=by
 have h1:=h.len;unfold aU.read at hz⊢;split at hz
 ·rename_i c;rw[if_pos c];unfold aU.there at c;simp only[Bool.and_eq_true,decide_eq_true_eq]at c;split at hz
  ·rename_i c2;rw[if_pos c2];refine⟨?_,c.1.2⟩;simp;omega
  ·rename_i c2;exact absurd hz c2
 ·simp at hz
theorem oM(r:Int):∀(k:Nat) (l:List (Int×Int)) (D:aU) (o:List UInt8) (D1:aU) (o1:List UInt8),k<=l.length->g_ r (l.take k) D o=(D1,o1,0)->g_ r l D o=g_ r (l.drop k) D1 o1
 |0,l,D,o,D1,o1,_,h=>by
  simp[g_]at h;obtain⟨rfl,rfl⟩:=h;rfl
 |k+1,[],_,_,_,_,hk,_=>by simp at hk
 |k+1,e::l,D,o,D1,o1,hk,h=>by
  rw[List.take_succ_cons,g_]at h;split at h
  ·rename_i c;rw[g_,if_pos c,List.drop_succ_cons];exact oM r k l _ _ D1 o1 (by simpa using hk) h
  ·rename_i c;simp only[Prod.mk.injEq]at h;exact absurd h.2.2 c
end Go.aW
namespace Go.Av
open Go.Proofs Go.aW
def RC(s:St)(D:aU)(o:List UInt8):Tb:=⟨[(0,aC 0 17 D),(1,ax D.kept),(2,ax D.now),(3,eY 0 8 s.J),(4,bZ 9 s.sl),(5,bZ 12 s.rm),(6,bT 0 7 s),(9,cn s.sl.F),(10,cn s.sl.R),(11,cn s.sl.W),(12,cn s.rm.F),(13,cn s.rm.R),(14,cn s.rm.W),(15,bP s.ix),(16,b_ s.lJ)],[(17,174,65),(8,364,2),(18,5,1)],19⟩
theorem VW(t:Nat)(s:St)(h:ic t s)(x:eG)(hx:x.uri.length<=1000/\x.var.length<=1000)(hb:x.body.length<=8/\∀e∈x.body,(0<=e.1/\e.1<=65536)/\0<=e.2/\e.2<=65536):aI Tryz.prog 17 [.obj 6 0,.p (dY x)] ⟨bF 0 7 s,eR 7,17⟩ (.agg true [.p (cy (s.body x).2.1),.p (.int (s.body x).2.2)]) ⟨bF 0 17 (s.body x).1,eR 17,27⟩:=by
 obtain⟨Z,hZ⟩:∃Z,s.body x=Z:=⟨_,rfl⟩;rw[hZ];unfold St.body at hZ;obtain⟨key,hkey⟩:∃key,x.uri++10::x.var=key:=⟨_,rfl⟩;have hK:=Fq x.uri x.var (by omega) (by omega);rw[hkey]at hK;have ha:=Vz s h.ixl key;refine QgQ (rs:=[_,_]) [] [(2,[(6,.r 1),(10,.r 2),(19,.r 1),(23,.r 2),(26,.w []),(34,.w [])]),(8,[(4,.r 1),(8,.r 1),(9,.w [1,3]),(11,.r 3),(14,.r 3),(15,.w [1,3])]),(14,[(2,.w [])])] [(1,6),(2,15),(3,19)] Tryz.func17 rfl (by simp[Tryz.ntmps17]) ?_;simp[bF];refine ai hK (by simp) ?_;simp;refine ak [0,1,2,3,4,5,6,7,8,9,10,11,12,13,14,15,16] ha (by simp) (by simp) (by simp[ay,bT,bP]) (by simp) ?_;unfold St.Ao at hZ;rw[hkey]at hZ;cases c1:DI s.ix key with
 |false=>
  rw[c1]at hZ;simp only[Bool.false_eq_true,if_false,Bool.false_and]at hZ;rw[<-hZ];simp[-aD,aC,ax,bZ,bT,bP,b_,Tryz.results17];exact⟨[(17,7),(18,8),(19,9),(20,10),(21,11),(22,12),(23,13),(24,14),(25,15),(26,16)],by simp[ah]⟩
 |true=>
  have hi:=Mn c1;have hg:s.ix.getD (sY s.ix key) La=s.ix[sY s.ix key]:=by simp[List.getD,hi]
  rw[c1,hg]at hZ;have hk:=h.ix _ (List.getElem_mem hi);generalize sY s.ix key=i at hi hZ hk;have vf:=AF hi;obtain⟨K,hKe⟩:∃K,s.ix[i]=K:=⟨_,rfl⟩;rw[hKe]at hZ hk vf;simp only[Bool.true_and]at hZ;have hg1:(w_ s.ix)[i*4+1]?=some (PC.int K.order):=by
   have:=congrArg (fun l=>l[1]?) vf;simpa[List.getElem?_take,List.getElem?_drop]using this
  have hg3:(w_ s.ix)[i*4+3]?=some (PC.sl (K.body.map gS)):=by
   have:=congrArg (fun l=>l[3]?) vf;simpa[List.getElem?_take,List.getElem?_drop]using this
  by_cases c2:K.order=x.order
  ·have dX:(K.order !=x.order)=false:=by simp[c2]
   simp[bT,bP,hi,hg1,hg3,c2];have hE:=Pq K.body x.body (by have:=hk.bl;omega) (by omega);refine ai hE (by simp) ?_;by_cases c3:K.body=x.body
   ·have hS:=CC x.body (by omega) (fun e he=>(hb.2 e he).2);simp[c3];refine ai hS (by simp) ?_;by_cases c4:x.size<=uF x.body
    ·have jU:¬uF x.body<x.size:=by omega
     by_cases c5:0<=x.size
     ·have pP:¬x.size<0:=by omega
      simp only[c2,c3,c4,c5,decide_true,Bool.and_true,if_true]at hZ;simp[jU,pP];clear vf hg1 hg3 hE hS hK ha hKe;have Oa:=h.pn;have hjn:=h.jn;have vb:cG s.jn s.pn=1+s.jn+s.pn*8:=rfl;have sN:=tC s.jn s.pn (by omega) (by omega);obtain⟨r,hr⟩:∃r,cG s.jn s.pn=r:=⟨_,rfl⟩;rw[hr]at sN vb hZ;obtain⟨Y,hY⟩:∃Y,g_ r x.body s.D []=Y:=⟨_,rfl⟩;rw[hY]at hZ;refine aN (fun a:Nat×aU×List UInt8=>a.1<=x.body.length/\eu (t*t) a.2.1/\g_ r (x.body.take a.1) s.D []=(a.2.1,a.2.2,0)/\(a.2.2.length:Int)=uF (x.body.take a.1)) (fun a=>[(0,.obj 6 0),(3,.p (.ref (dY x))),(66,.p (.sl (x.body.map gS))),(67,.p (.int x.body.length)),(68,.p (.int a.1)),(8,.own 18 (ah a.2.2))]) (fun a=>RC s a.2.1 a.2.2) (fun a=>x.body.length-a.1) (0,s.D,[]) (by simp[g_,h.D,uF])
       _ (wY 8 5 1 [] (.inr ⟨rfl,by simp⟩)) (aE [(17,7),(18,17)] (by simp[RC,aC,ax,bZ,b_,bT,bP,ah])) ?_
      rintro⟨k,D,o⟩ ⟨q1,q2,q3,q4⟩;simp only at q1 q2 q3 q4;have hsp:=oM r k x.body s.D [] D o q1 q3;rw[hY]at hsp;have hbk:=Mt (x.body.take k) (fun e he=>(hb.2 e (List.mem_of_mem_take he)).2);have am8:(x.body.take k).length<=8:=by simp;omega
      by_cases ck:k<x.body.length
      ·obtain⟨e,he⟩:∃e,x.body[k]=e:=⟨_,rfl⟩;have PR:=hb.2 e (by rw[<-he];exact List.getElem_mem ck);have wk:IntKind.i64.wrap ((k:Int)+1)=((k+1:Nat):Int):=by rw[af (by omega) (by omega)];rfl
       have w3:IntKind.i64.wrap (r+e.1)=r+e.1:=af (by omega) (by omega);have hrd:=xL D (t*t) q2 (r+e.1) e.2 (by omega);have hss:=Gp q2 (r+e.1) e.2;have Wj:=XH q2 (r+e.1) e.2;have MD:=q2.read (r+e.1) e.2;rw[List.drop_eq_getElem_cons ck,he,g_]at hsp;have lZ:x.body.take (k+1)=x.body.take k++[e]:=by rw[List.take_succ_eq_append_getElem ck,he]
       obtain⟨R,hR⟩:∃R,D.read (r+e.1) e.2=R:=⟨_,rfl⟩;rw[hR]at hrd hss Wj MD hsp;obtain⟨D',L,c⟩:=R;simp only at hrd hss Wj MD hsp;have hfl:=sV hss.2;simp[RC,bT,ck,he];refine ak [0] sN (by simp) (by simp) (by simp) (by simp) ?_;simp[w3];refine ak [0,1,2,17] hrd (by simp) (by simp) (by simp[ay,aC,ax]) (by simp[ay]) ?_;by_cases cc:c=0
       ·subst cc;have hj:=AW L (by omega) (by omega);have hn:=Wj rfl;simp[ax,aC];refine ai hj (by simp) ?_;have jJ:(List.map List.length L).sum=L.flatten.length:=List.length_flatten.symm;have e1:(x.body.take (k+1)).take k=x.body.take k:=by rw[List.take_take,Nat.min_eq_left (by omega)]
        have e2:=oM r k (x.body.take (k+1)) s.D [] D o (by simp;omega) (by rw[e1];exact q3);have e3:(x.body.take k++[e]).drop k=[e]:=List.drop_left' (by simp;omega);have e4:g_ r [e] D o=(D',o++L.flatten,0):=by simp[g_,hR]
        rw[lZ,e3,e4]at e2;have e5:((o++L.flatten).length:Int)=uF (x.body.take k++[e]):=by rw[CB,List.length_append];omega
        simp[wk];exact⟨fun y h=>cg _ y h,fun y h=>cg _ y h,by omega,by omega,k+1,D',o++L.flatten,⟨by omega,MD,by rw[lZ];exact e2,by rw[lZ];exact e5⟩,by omega,aE [(17,20),(18,21)] (by simp[ah,bZ,bP,b_])⟩
       ·have cc':(c !=0)=true:=by simpa using cc
        rw[if_neg cc]at hsp;rw[<-hZ,hsp];simp[-aD,aC,ax,bZ,bP,b_,cc,cc',St.dev,Tryz.results17];exact⟨[(17,20),(18,8),(19,9),(20,10),(21,11),(22,12),(23,13),(24,14),(25,15),(26,16)],by simp[ah]⟩
      ·obtain rfl:k=x.body.length:=by omega
       rw[List.take_length]at q3 q4 hbk am8;rw[hY]at q3;rw[q3]at hZ;have yt:o.length<=40000000:=by omega
       obtain⟨n,hn⟩:∃n:Nat,x.size.toNat=n:=⟨_,rfl⟩;rw[hn]at hZ;have am9:n<=o.length:=by omega
       have hsum:=ME [o.take n] (by simp) (by intro b hb;simp at hb;subst hb;simp;omega);have K7:List.take n (ah o)=ah (o.take n):=by simp[ah]
       simp[RC,bT,hn,K7];refine⟨fun y h=>(cg _ y h).symm,c5,am9,?_⟩;refine ai hsum (by simp) ?_;simp only[List.flatten_cons,List.flatten_nil,List.append_nil];by_cases c6:rO (o.take n)=x.sum
       ·simp only[c6,if_true]at hZ;rw[<-hZ];simp[-aD,aC,ax,bZ,bP,b_,c6,St.dev,Tryz.results17];exact⟨[(17,17),(18,8),(19,9),(20,10),(21,11),(22,12),(23,13),(24,14),(25,15),(26,16)],by simp[ah]⟩
       ·have Bq:((rO (o.take n):Int) !=(x.sum:Int))=true:=bne_iff_ne.2 (by omega);simp only[c6,if_true,if_false]at hZ;rw[<-hZ];simp[-aD,aC,ax,bZ,bP,b_,Bq,St.dev,Tryz.results17];exact⟨[(17,17),(18,8),(19,9),(20,10),(21,11),(22,12),(23,13),(24,14),(25,15),(26,16)],by simp[ah]⟩
     ·have pP:x.size<0:=by omega
      simp only[c5,decide_false,Bool.and_false,Bool.false_eq_true,if_false]at hZ;rw[<-hZ];simp[-aD,aC,ax,bZ,b_,jU,pP,Tryz.results17];exact⟨[(17,7),(18,8),(19,9),(20,10),(21,11),(22,12),(23,13),(24,14),(25,15),(26,16)],by simp[ah]⟩
    ·have jU:uF x.body<x.size:=by omega
     simp only[c4,decide_false,Bool.false_and,Bool.and_false,Bool.false_eq_true,if_false]at hZ;rw[<-hZ];simp[-aD,aC,ax,bZ,b_,jU,Tryz.results17];exact⟨[(17,7),(18,8),(19,9),(20,10),(21,11),(22,12),(23,13),(24,14),(25,15),(26,16)],by simp[ah]⟩
   ·simp only[c3,decide_false,Bool.false_and,Bool.and_false,Bool.false_eq_true,if_false]at hZ;rw[<-hZ];simp[-aD,aC,ax,bZ,b_,c3,Tryz.results17];exact⟨[(17,7),(18,8),(19,9),(20,10),(21,11),(22,12),(23,13),(24,14),(25,15),(26,16)],by simp[ah]⟩
  ·have dX:(K.order !=x.order)=true:=by simp[c2]
   simp only[c2,decide_false,Bool.false_and,Bool.false_eq_true,if_false]at hZ;rw[<-hZ];simp[-aD,aC,ax,bZ,bT,bP,b_,hi,hg1,dX,Tryz.results17];exact⟨[(17,7),(18,8),(19,9),(20,10),(21,11),(22,12),(23,13),(24,14),(25,15),(26,16)],by simp[ah]⟩
end Go.Av
namespace Go.aW
open Go.Av
structure Sm where
 s:St
 e:eG
 rest:List UInt8
 ended:Bool
 kept:Bool
def YS(e:eG):Bool:=e.right&&(decide (e.order=0)&&(decide (e.size=0)&&(decide (e.sum=0)&&decide (e.body=[]))))
end Go.aW
namespace Go.Av
open Go.Proofs Go.aW
def zb(l:List (Int×Int)):List PC:=l.flatMap fun x=>[PC.int x.1,PC.int x.2]
def jD(l:List (Int×Int)):Ob:=⟨157,2,(zb l).map .p⟩
def jQ(o d:Nat)(w:Sm):Ob:=⟨141,19,[.obj o 0,.p (.str w.e.uri),.p (.sl (w.e.names.map PC.str)),.p (.str w.e.var),.p (.str w.e.st.m),.p (.str w.e.st.t),.p (.int w.e.st.st),.p (.str w.e.st.r),.p (.int w.e.st.mi),.p (.sl (w.e.fields.map pQ)),.p (.int w.e.asked),.p (.int w.e.got),.p (.int w.e.order),.p (.int w.e.size),.p (mz w.e.sum),.view d 0 w.e.body.length 2 none,.p (cy w.rest),.p (.bool w.ended),.p (.bool w.kept)]⟩
@[reducible]def smO(b u:Nat)(w:Sm):Ob:=jQ (b+6) (u+10) w
def gU(b u:Nat)(w:Sm):List (Nat×Ob):=(b+7,smO b u w)::(u+10,jD w.e.body)::bF b u w.s
theorem MY(xs:List (List UInt8))(hb:xs.length<=1000000000000):aB Tryz.prog 55 [.sl (xs.map PC.str)] (.sl (xs.map PC.str)):=by
 have hw:∀x∈xs.map PC.str,x.width=1:=by intro y hy;obtain⟨x,_,rfl⟩:=List.mem_map.1 hy;rfl
 have ht:∀x∈xs.map PC.str,cF x=true:=by intro y hy;obtain⟨x,_,rfl⟩:=List.mem_map.1 hy;rfl
 have h:=Ga 0 (xs.map PC.str) hw ht (by simpa using hb);have e:(xs.map PC.str).flatMap aV=((xs.map PC.str).flatMap gu).map AV.p:=by
  induction xs with
  |nil=>rfl
  |cons c l ih=>simp[gu,aV]
 have e2:((xs.map PC.str).flatMap gu).length=xs.length:=by
  clear h hw ht e hb
  induction xs with
  |nil=>rfl
  |cons c l ih=>simp[gu]
 have hp:=qQ h (ob:=⟨9,1,((xs.map PC.str).flatMap gu).map .p⟩) (ys:=xs.map PC.str) (by simp) rfl (by omega) (by simp) (by rw[e];exact List.take_of_length_le (by simp)) rfl hw ht;exact bN (xs:=[_]) hp ⟨_,rfl,.inl rfl⟩
theorem YT:dV Tryz.prog 56:=⟨Tryz.f56,Tryz.func56,by kernel_rfl,by kernel_rfl⟩
theorem Sx(nx:Nat)(xs:List PC)(hw:∀x∈xs,x.width=2)(ht:∀x∈xs,cF x=true)(hb:xs.length<=1000000000000):aI Tryz.prog 56 [.p (.sl xs)] ⟨[],[],nx⟩ (.view nx 0 xs.length 2 none) ⟨[(nx,⟨139,2,(xs.flatMap gu).map .p⟩)],[],nx+1⟩:=by
 refine qZ (pre:=[]) (post:=[]) YT ?_ ?_
 ·rintro rfl;refine fU (r:= .p .nil) (aO:=⟨[],[],nx⟩) (el:=139) (s:=2) ?_ trivial;refine QgQ (rs:=[.p .nil]) [7] [] [] Tryz.func56 rfl (by simp[Tryz.ntmps56]) ?_;simp[Tryz.results56];exact⟨[],by simp⟩
 ·refine QgQ (rs:=[_]) [7] [] [] Tryz.func56 rfl (by simp[Tryz.ntmps56]) ?_;simp[Tryz.results56];refine⟨hw,ht,by omega,by omega,[],?_⟩;simp
theorem MZ(xs:List Fd)(hb:xs.length<=1000000000000):aB Tryz.prog 56 [.sl (xs.map pQ)] (.sl (xs.map pQ)):=by
 have hw:∀x∈xs.map pQ,x.width=2:=by intro y hy;obtain⟨x,_,rfl⟩:=List.mem_map.1 hy;rfl
 have ht:∀x∈xs.map pQ,cF x=true:=by intro y hy;obtain⟨x,_,rfl⟩:=List.mem_map.1 hy;rfl
 have h:=Sx 0 (xs.map pQ) hw ht (by simpa using hb);have e:(xs.map pQ).flatMap aV=((xs.map pQ).flatMap gu).map AV.p:=by
  clear h hw ht hb
  induction xs with
  |nil=>rfl
  |cons c l ih=>rw[List.map_cons,List.flatMap_cons,List.flatMap_cons,List.map_append,ih];rfl
 have e2:((xs.map pQ).flatMap gu).length=xs.length*2:=by
  clear h hw ht e hb
  induction xs with
  |nil=>rfl
  |cons c l ih=>rw[List.map_cons,List.flatMap_cons,List.length_append,ih];simp[gu];omega
 have hp:=qQ h (ob:=⟨139,2,((xs.map pQ).flatMap gu).map .p⟩) (ys:=xs.map pQ) (by simp) rfl (by omega) (by simp[e2]) (by rw[e];exact List.take_of_length_le (by simp[e2])) (by simp) hw ht;exact bN (xs:=[_]) hp ⟨_,rfl,.inl rfl⟩
abbrev Ms(e:eG):PC:= .agg false [.str e.uri,.sl (e.names.map PC.str),.str e.var,.str e.st.m,.str e.st.t,.int e.st.st,.str e.st.r,.int e.st.mi,.sl (e.fields.map pQ),.int e.asked,.int e.got,.int e.order,.int e.size,mz e.sum,.nil]
def aiH(s:St)(e:eG):Sm:=⟨s,e,[],false,false⟩
theorem Sy(s:St)(e:eG)(he:e.Ok)(hg:YS e=true):aI Tryz.prog 12 [.obj 6 0,.p (Ms e)] ⟨bF 0 7 s,eR 7,17⟩ (.agg true [.obj 17 0,.p (.int 0)]) ⟨(17,jQ 6 18 (aiH s e))::(18,jD [])::bF 0 7 s,eR 7,19⟩:=by
 unfold YS at hg;simp only[Bool.and_eq_true,decide_eq_true_eq]at hg;obtain⟨g1,g2,g3,g4,g5⟩:=hg;have hR:aB Tryz.prog 54 [.agg false [.str e.uri,.sl (e.names.map PC.str),.str e.var,.str e.st.m,.str e.st.t,.int e.st.st,.str e.st.r,.int e.st.mi,.sl (e.fields.map pQ),.int e.asked,.int e.got,.int e.order,.int e.size,mz e.sum,.sl []]] (.bool true):=by
  have:=vz e he;have e2:dY e= .agg false [.str e.uri,.sl (e.names.map PC.str),.str e.var,.str e.st.m,.str e.st.t,.int e.st.st,.str e.st.r,.int e.st.mi,.sl (e.fields.map pQ),.int e.asked,.int e.got,.int e.order,.int e.size,mz e.sum,.sl []]:=by
   simp[dY,g5]
  rw[g1,e2]at this;exact this
 have hC1:=MY e.names (by have:=he.nl;omega);have hC2:=MZ e.fields (by have:=he.fl;omega);have key:aI Tryz.prog 12 [.obj 6 0,.p (Ms e)] ⟨bF 0 7 s,eR 7,17⟩ (.agg true [.obj 17 0,.p (.int 0)]) ⟨(17,⟨141,19,[.obj 6 0,.p (.str e.uri),.p (.sl (e.names.map PC.str)),.p (.str e.var),.p (.str e.st.m),.p (.str e.st.t),.p (.int e.st.st),.p (.str e.st.r),.p (.int e.st.mi),.p (.sl (e.fields.map pQ)),.p (.int e.asked),.p (.int e.got),.p (.int 0),.p (.int 0),.p (mz 0),.p .nil,.p .nil,.p (.bool false),.p (.bool false)]⟩)::bF 0 7 s,eR 7,18⟩:=by
  refine QgQ (rs:=[_,_]) [3,41] [(3,[(1,.r 1),(2,.w [1]),(4,.r 1),(5,.w [1]),(7,.s 1 []),(9,.s 1 [])])] [(1,17)] Tryz.func12 rfl (by simp[Tryz.ntmps12]) ?_;simp[bF];refine ai hR (by simp) ?_;simp[g2,g3,g4];refine ai hC1 (by simp) ?_;simp;refine ai hC2 (by simp) ?_;simp[-aD,Tryz.results12];exact⟨[(17,18)],by simp[aC,ax,bZ,bT,bP,b_]⟩
 have k2:=kI (id:=17) (j:=16) (x:= .p .nil) (.p (cy [])) key rfl rfl (.inr (.inl ⟨.nil,rfl,.inr rfl⟩));have k3:=me (id:=17) (j:=15) 157 2 k2 rfl rfl;refine v7 k3 _ ?_ ?_ ?_ ?_
 ·simp[ay,bF,jQ,aiH,jD,zb,g2,g3,g4,g5,Tb.aQ,Tb.aT,del]
 ·simp[ay,Tb.aQ,Tb.aT]
 ·simp[bF]
 ·simp[Tb.aQ,Tb.aT]
end Go.Av
namespace Go.Av
open Go.Proofs Go.aW
open Go.cI (Nd rB l_)
theorem Ph(t:Nat)(c:Cs)(h:fq t c)(ht:t<=30000)(p:Int):aI Tryz.prog 427 [.obj 7 0,.p (.int p)] ⟨qL 0 8 c,jG 8,20⟩ (.agg true []) ⟨qL 0 20 (c.dr p),jG 20,32⟩:=by
 have ho:=h.old;refine QgQ (rs:=[]) [] [] [] Tryz.func427 rfl (by simp[Tryz.ntmps427]) ?_;simp[-aD,bF,qL,yT,aC,ax,bZ,bT,bP,b_,Tryz.results427];exact⟨by omega,by omega,[(20,8),(21,9),(22,10),(23,11),(24,12),(25,13),(26,14),(27,15),(28,16),(29,17),(30,18),(31,20)],by simp[Cs.dr]⟩
theorem wR(M:Mp)(k:Int):(∀p (hp:p<M.F.length),p<M.run k->¬k<=(M.F[p].2:Int))/\∀h:M.run k<M.F.length,k<=(M.F[M.run k].2:Int):=by
 unfold Mp.run;obtain⟨h1,h2⟩:=Go.cI.Pj (fun e:Ext=>!decide (k<=(e.2:Int))) M.F;refine⟨fun p hp hlt=>?_,fun h=>?_⟩
 ·have:=h1 M.F[p] (List.mem_take_iff_getElem.2 ⟨p,by omega,rfl⟩);simpa using this
 ·have:=h2 h;simpa using this
theorem vC(m f r w nx:Nat)(h:JL m f r w nx)(M:Mp)(hM:qf M)(k:Nat)(hk:1<=k)(hr:M.run k<M.F.length):aI Tryz.prog 227 [.obj m 0,.p (.int k)] ⟨dU m f r w M.n M.F M.R M.W,[],nx⟩ (.agg true [.p (gS (M.take k).2.1),.p (.bool true)]) ⟨dU m nx (nx+1) w M.n (M.take k).1.F (M.take k).1.R (M.take k).1.W,[],nx+2⟩:=by
 obtain⟨h1,h2⟩:=wR M k;have hc:=Vs m f r w nx M.n h M.F M.R M.W k (M.run k) (hM.F.Jk hM.n) (hM.R.Jk hM.n) hk hr (by have:=h2 hr;omega) (fun p hp hlt=>by have:=h1 p hp hlt;omega);have e:M.take k=({M with F:=fy M.F (M.F[M.run k].1,k),R:=fS M.R (M.F[M.run k].1,k)},((M.F[M.run k].1:Int),(k:Int)),true):=by
  unfold Mp.take;rw[if_pos ⟨by omega,hr⟩];simp[hr]
 rw[e];exact hc
theorem KK(m f r w nx:Nat)(h:JL m f r w nx)(M:Mp)(hM:qf M)(k:Int)(hr:¬(1<=k/\M.run k<M.F.length)):aI Tryz.prog 227 [.obj m 0,.p (.int k)] ⟨dU m f r w M.n M.F M.R M.W,[],nx⟩ (.agg true [.p (gS (0,0)),.p (.bool false)]) ⟨dU m f r w M.n M.F M.R M.W,[],nx⟩:=by
 obtain⟨h1,h2⟩:=wR M k;refine Vr m f r w nx M.n h M.F M.R M.W k (hM.F.Jk hM.n) ?_;by_cases c:k<1
 ·exact .inl c
 ·right;intro e he;obtain⟨i,hi,rfl⟩:=List.getElem_of_mem he;exact h1 i hi (by omega)
end Go.Av
namespace Go.aW
open Go.Av
theorem qf.take{M:Mp}(h:qf M)(k:Int):qf (M.take k).1/\(M.take k).1.n=M.n/\0<=(M.take k).2.1.1/\(M.take k).2.1.1<=M.n/\((M.take k).2.2=true->1<=k/\(M.take k).2.1.1+k<=M.n/\(M.take k).2.1.2=k):=by
 unfold Mp.take;split
 ·rename_i c;obtain⟨c1,c2⟩:=c;obtain⟨h1,h2⟩:=wR M k;have hk:=h2 c2;have hmem:=List.getElem_mem c2;have DD:=h.F.top _ hmem;have hg:M.F.getD (M.run k) (0,0)=M.F[M.run k]:=by simp[c2]
  rw[hg];obtain⟨e,he⟩:∃e:Go.Av.Ext,(M.F[M.run k].1,k.toNat)=e:=⟨_,rfl⟩;have e1:e.1=M.F[M.run k].1:=by rw[<-he]
  have e2:e.2=k.toNat:=by rw[<-he]
  have hin:∀s,iy e s->mem M.F s:=fun s hs=>⟨_,hmem,by unfold iy at*;omega⟩;have hh:hasB M.F e=true:=(vp h.F.nr e (by omega)).2 hin;obtain⟨q1,q2⟩:=h.F.cut (e:=e) (by omega) hh;have hm:sS M.R e=false:=by
   cases hc:sS M.R e with
   |false=>rfl
   |true=>
    obtain⟨s,hs,hm⟩:=(qc h.R.nr e (by omega)).1 hc;exact absurd hm (h.fr s (hin s hs))
  obtain⟨p1,p2⟩:=h.R.put (e:=e) (by omega) hm (by omega);rw[he];refine⟨⟨h.n,q1,p1,h.W,fun s hs hm=>?_,fun s hs=>h.fw s ((q2 s).1 hs).1⟩,rfl,by simp,by simp;omega,fun _=>⟨c1,by simp;omega,rfl⟩⟩;rcases(p2 s).1 hm with hm|hm
  ·exact h.fr s ((q2 s).1 hs).1 hm
  ·exact((q2 s).1 hs).2 hm
 ·exact⟨h,rfl,by simp,by simp,by simp⟩
theorem N6{b:Nat}{D:aU}(h:eu b D)(a kind:Int)(l:List UInt8):eu (b+8) (j_ D a kind l).1/\(j_ D a kind l).1.kept=D.kept:=by
 unfold j_;split
 ·have h1:=h.write a (bn (gZ kind l).1);rw[Go.Av.eI]at h1;have:=Go.Av.zN kind l;exact⟨h1.up (by omega),dN _ _ _⟩
 ·exact⟨h.up (by omega),rfl⟩
theorem fq.sv{t:Nat}{c:Cs}(h:fq t c)(n:Go.cI.Nd):fq (t+8) (c.sv n).1:=by
 unfold Cs.sv;split
 ·split
  ·obtain⟨m1,m2,m3,m4,m5⟩:=h.s.sl.take 1;obtain⟨p1,p2⟩:=N6 h.s.D (vq c.s.jn (c.s.sl.take 1).2.1.1) 1 (h_ n.lf n.ks n.vs);have e8:=sq8 t;have hd:=h.s.dev (t':=t+8) (by omega) (p1.up (by omega)) (by rw[p2]);have hn:=h.s.sl.n;refine⟨{hd with sl:=m1,T6:=by simp only[m2];exact h.s.T6},by have:=h.saved;simp;omega,fun p hp=>?_,by have:=h.old;simp;omega,h.olb⟩;simp only[List.mem_append,List.mem_singleton]at hp;rcases hp with hp|rfl
   ·exact h.sav p hp
   ·exact⟨m3,by omega⟩
  ·exact h.up (by omega)
 ·exact h.up (by omega)
end Go.aW
namespace Go.Av
open Go.Proofs Go.aW
open Go.cI (Nd rB l_)
theorem uv(n:Nd)(h:rB n=true):(h_ n.lf n.ks n.vs).length<=500:=by
 have hr:fc n.lf n.ks n.vs=true:=by rw[kL];exact h
 obtain⟨hc,k4,hf,C9⟩:=pq hr;have hv:n.vs.length<=5:=by
  have:n.vs.length=n.ks.length+(if n.lf then 0 else 1):=by simpa[nO]using hf
  split at this<;>omega
 have h1:=uq C9 k4;have h2:=uo hv;simp only[h_,kC,List.length_append,List.length_cons,List.length_nil];omega
theorem QZ(t:Nat)(c:Cs)(h:fq t c)(ht:t<=30000)(n:Nd)(hk:n.ks.length<=1000)(hv:n.vs.length<=1000):aI Tryz.prog 429 [.obj 7 0,.p (yq n)] ⟨qL 0 8 c,jG 8,20⟩ (.agg true [.p (.int (c.sv n).2.1),.p (.int (c.sv n).2.2)]) ⟨qL 0 20 (c.sv n).1,jG 20,32⟩:=by
 obtain⟨Z,hZ⟩:∃Z,c.sv n=Z:=⟨_,rfl⟩;rw[hZ];unfold Cs.sv at hZ;refine QgQ (rs:=[_,_]) [] [(7,[(4,.r 1),(6,.r 2),(8,.f [1,2]),(11,.s 1 [2])]),(8,[(1,.r 2),(6,.r 1),(10,.r 3),(14,.r 1),(17,.r 3),(18,.w [1,2,3]),(20,.r 2),(25,.w [1,2,3])])] [(1,7),(2,22),(3,6)] Tryz.func429 rfl (by simp[Tryz.ntmps429]) ?_;by_cases c1:rB n=true
 ·rw[if_pos c1]at hZ;have hp:=Zd n.lf n.ks n.vs (by rw[kL];exact c1) (by omega) (by omega);have hpl:=uv n c1;have hm:=h.s.sl.take 1;have jJ:=h.s.T6;have Oa:=h.s.pn;have hjn:=h.s.jn;have hsv:=h.saved;have htt:=PO ht;obtain⟨PB,hPB⟩:∃PB,h_ n.lf n.ks n.vs=PB:=⟨_,rfl⟩;rw[hPB]at hp hpl hZ;by_cases c2:c.s.sl.run 1<c.s.sl.F.length
  ·have hT:=vC 4 10 11 12 20 (by constructor<;>omega) c.s.sl h.s.sl 1 (by omega) c2;have c3:(c.s.sl.take 1).2.2=true:=by unfold Mp.take;rw[if_pos ⟨by omega,c2⟩]
   simp only[Int.cast_ofNat_Int]at hT;obtain⟨T,hTe⟩:∃T,c.s.sl.take 1=T:=⟨_,rfl⟩;rw[hTe]at hT hm hZ c3;obtain⟨M',⟨a,k⟩,ok⟩:=T;simp only at hT hm hZ c3;subst c3;rw[if_pos rfl]at hZ;obtain⟨m1,m2,m3,m4,m5⟩:=hm;have w1:IntKind.i64.wrap (a*8)=a*8:=af (by omega) (by omega);have w2:IntKind.i64.wrap (1+c.s.jn+a*8)=vq c.s.jn a:=af (by omega) (by omega);have w3:IntKind.i64.wrap (a+1)=a+1:=af (by omega) (by omega);have hw:=I5 c.s.D (t*t) h.s.D (vq c.s.jn a) 1 (by unfold vq;omega) (by omega) (by omega) [PB] (by simp;omega) (by simp);simp only[List.flatten_cons,List.flatten_nil,List.append_nil]at hw;obtain⟨W,hW⟩:∃W,j_ c.s.D (vq c.s.jn a) 1 PB=W:=⟨_,rfl⟩;rw[hW]at hw hZ;have DK:=vY c.s.jn c.s.pn (by omega);simp[bF,qL,yT,aC,ax,bZ,bT,bP,b_];refine ai hp (by simp) ?_;simp;refine az hT (by simp) (by simp[ay]) (by simp[ay]) rfl ?_;simp;refine⟨by omega,by omega,?_⟩;refine ak [0] DK (by simp) (by simp) (by simp) (by simp) ?_;simp[w1,w2,w3];refine ak [0,1,2,8] hw (by simp) (by simp) (by simp[ay,ax]) (by simp[ay]) ?_;rw[<-hZ];simp[-aD,ax,Tryz.results429];exact⟨[(20,24),(21,9),(22,20),(23,21),(24,12),(25,13),(26,14),(27,15),(28,16),(29,17),(30,23),(31,19)],by simp[m2]⟩
  ·have hT:=KK 4 10 11 12 20 (by constructor<;>omega) c.s.sl h.s.sl 1 (by omega);have c3:(c.s.sl.take 1).2.2=false:=by unfold Mp.take;rw[if_neg (by omega)]
   rw[c3,if_neg (by simp)]at hZ;rw[<-hZ];simp[bF,qL,yT,aC,ax,bZ,bT,bP,b_];refine ai hp (by simp) ?_;simp;refine az hT (by simp) (by simp[ay]) (by simp[ay]) rfl ?_;simp[-aD,Tryz.results429];exact⟨[(20,8),(21,9),(22,10),(23,11),(24,12),(25,13),(26,14),(27,15),(28,16),(29,17),(30,18),(31,19)],by simp⟩
 ·rw[if_neg c1]at hZ;rw[<-hZ];have hp:=OD n.lf n.ks n.vs (by rw[kL];simpa using c1) (by omega) (by omega);simp[bF,qL,yT,aC,ax,bZ,bT,bP,b_];refine ai hp (by simp) ?_;simp[-aD,Tryz.results429];exact⟨[(20,8),(21,9),(22,10),(23,11),(24,12),(25,13),(26,14),(27,15),(28,16),(29,17),(30,18),(31,19)],by simp⟩
end Go.Av
namespace Go.aW
open Go.Av
theorem Um{α:Type}{p:α->Bool}{l:List α}(h:(!l.any p)=true):∀x∈l,p x=false:=fun x hx=>by
 rw[Bool.not_eq_true']at h;cases hp:p x with
 |false=>rfl
 |true=>rw[List.any_eq_true.2 ⟨x,hx,hp⟩]at h;cases h
theorem qf.yJ{m:Mp}(h:qf m)(es:List (Int×Int)):qf (m.yJ es)/\(m.yJ es).n=m.n:=by
 refine⟨?_,rfl⟩;unfold Mp.yJ;by_cases c:nI m.n m.F m.W es=true
 ·rw[if_pos c];unfold nI at c;simp only[Bool.and_eq_true]at c;obtain⟨c1,c2⟩:=c;obtain⟨r1,r2,r3⟩:=mB es [] oB c1;have hf:=Um c2;have hno:∀e∈es.map toE,sS m.F e=false/\sS m.W e=false:=fun e he=>by simpa using hf e he
  have hp:=rI h.W (es:=es.map toE) (fun e he=>⟨(r2 e he).1,(r2 e he).2.1,fun s hs hm=>by
   have:=(qc h.W.nr e (r2 e he).1).2 ⟨s,hs,hm⟩;rw[(hno e he).2]at this;cases this⟩) r3 _ (Nat.le_refl _)
  rw[List.take_length]at hp;refine⟨h.n,h.F,h.R,hp.1,h.fr,fun s hs hm=>?_⟩;rcases(hp.2.1 s).1 hm with hm|⟨e,he,hi⟩
  ·exact h.fw s hs hm
  ·have:=(qc h.F.nr e (r2 e he).1).2 ⟨s,hi,hs⟩;rw[(hno e he).1]at this;cases this
 ·rw[if_neg c];exact h
theorem qf.hold{m:Mp}(h:qf m)(es:List (Int×Int)):qf (m.hold es).1/\(m.hold es).1.n=m.n:=by
 refine⟨?_,rfl⟩;unfold Mp.hold;by_cases c:d_ m.n m.F es=true
 ·simp only[c,if_true];unfold d_ at c;simp only[Bool.and_eq_true]at c;obtain⟨c1,c2⟩:=c;obtain⟨r1,r2,r3⟩:=mB es [] oB c1;have hf:=Um c2;have hh:∀e∈es.map toE,hasB m.F e=true:=fun e he=>by simpa using hf e he
  have hp:=B4 h.F (es:=es.map toE) (fun e he=>⟨(r2 e he).1,(vp h.F.nr e (r2 e he).1).1 (hh e he)⟩) r3 _ (Nat.le_refl _);rw[List.take_length]at hp;exact⟨h.n,hp.1,h.R,h.W,fun s hs=>h.fr s ((hp.2.1 s).1 hs).1,fun s hs=>h.fw s ((hp.2.1 s).1 hs).1⟩
 ·have c':d_ m.n m.F es=false:=by simpa using c
  simp only[c',Bool.false_eq_true,if_false];exact h
theorem Et{m:Mp}(h:qf m):∀(l:List Int),qf (dF m l)/\(dF m l).n=m.n:=by
 intro l
 induction l generalizing m with
 |nil=>exact⟨h,rfl⟩
 |cons p l ih=>
  obtain⟨h1,h2⟩:=h.yJ [(p,1)];obtain⟨h3,h4⟩:=ih h1;exact⟨h3,h4.trans h2⟩
theorem AT(m:Mp)(l:List Int)(p:Int):dF m (l++[p])=(dF m l).yJ [(p,1)]:=by simp[dF]
theorem xD(m:Mp)(l:List Int):(dF m l).F=m.F/\(dF m l).R=m.R/\(dF m l).n=m.n:=by
 induction l generalizing m with
 |nil=>exact⟨rfl,rfl,rfl⟩
 |cons p l ih=>exact ih (m.yJ [(p,1)])
end Go.aW
namespace Go.Av
open Go.Proofs Go.aW
theorem QL(s:St)(hs:qf s.sl)(l:List Int)(hl:l.length<=1000000):aI Tryz.prog 236 [.obj 6 0,.p (.sl (l.map PC.int))] ⟨bF 0 7 s,eR 7,17⟩ (.agg true []) ⟨bF 0 17 {s with sl:=dF s.sl l},eR 17,27⟩:=by
 refine QgQ (rs:=[]) [] [] [] Tryz.func236 rfl (by simp[Tryz.ntmps236]) ?_;simp[bF,aC,ax,bZ,bT,bP,b_];refine aN (fun k:Nat=>k<=l.length) (fun k=>[(0,.obj 6 0),(6,.p (.sl (l.map PC.int))),(7,.p (.int l.length)),(8,.p (.int k))]) (fun k=>⟨[(0,aC 0 7 s.D),(1,ax s.D.kept),(2,ax s.D.now),(3,eY 0 8 s.J),(4,iM s.sl.n 9 10 17 s.sl.F s.sl.R (dF s.sl (l.take k)).W),(5,bZ 12 s.rm),(6,bT 0 7 s),(9,cn s.sl.F),(10,cn s.sl.R),(17,cn (dF s.sl (l.take k)).W),(12,cn s.rm.F),(13,cn s.rm.R),(14,cn s.rm.W),(15,bP s.ix),(16,b_ s.lJ)],eR 7,18⟩) (fun k=>l.length-k) 0 (by simp) _ (AS.le_refl _ _) (aE [(17,11)] (by simp[aC,ax,bZ,bT,bP,b_,dF])) ?_;intro k hk;by_cases ck:k<l.length
 ·have wk:IntKind.i64.wrap ((k:Int)+1)=((k+1:Nat):Int):=by rw[af (by omega) (by omega)];rfl
  obtain⟨g1,g2⟩:=Et hs (l.take k);obtain⟨f1,f2,f3⟩:=xD s.sl (l.take k);have hg:=V8 4 9 10 17 18 (dF s.sl (l.take k)).n (by constructor<;>omega) g1.n _ _ _ g1.F g1.R g1.W [(l[k],1)] (by simp);rw[f1,f2,f3]at hg;have hsn:dF s.sl (l.take (k+1))=(dF s.sl (l.take k)).yJ [(l[k],1)]:=by rw[List.take_succ_eq_append_getElem ck,AT]
  have hW:(dF s.sl (l.take (k+1))).W=if nI s.sl.n s.sl.F (dF s.sl (l.take k)).W [(l[k],1)]=true then([(l[k],1)].map toE).foldl fS (dF s.sl (l.take k)).W else(dF s.sl (l.take k)).W:=by
   rw[hsn];simp only[Mp.yJ,f1,f3]
  rw[<-hW]at hg;simp[ck,aC,ax,bZ,bT,bP,b_];refine az hg (by simp) (by simp[ay]) (by simp[ay]) rfl ?_;simp[wk];exact⟨k+1,by omega,by omega,aE [(17,18)] (by simp)⟩
 ·obtain rfl:k=l.length:=by omega
  obtain⟨f1,f2,f3⟩:=xD s.sl l;simp[-aD,aC,ax,bZ,bT,bP,b_,Tryz.results236];exact⟨[(17,7),(18,8),(19,9),(20,10),(21,17),(22,12),(23,13),(24,14),(25,15),(26,16)],by simp[f1,f2,f3]⟩
end Go.Av
