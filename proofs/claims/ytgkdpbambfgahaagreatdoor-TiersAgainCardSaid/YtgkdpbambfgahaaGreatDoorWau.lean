/- TiersAgain, part 21: what functions compute, and its plain law; no condition. -/
import Derived.Test.YtgkdpbambfgahaaGreatDoorWat
set_option linter.all false
set_option maxRecDepth 100000
set_option maxHeartbeats 64000000
namespace Go.aL
open Go.Av
def pP(s:St):List (Int×aF):=s.dR.map λl=>(l.kind,l.key)
def PD(r:Nat)(D:bt)(a:Int):Out r D (iN D a).1:=by
 grind [Ue,iN]
def PE{r:Nat}(D:bt){a:Int}(kind:Int)(l:aF)(h:0<=a/\a+8<=r):Out r D (lK D a kind l).1:=by
 grind [lK,qa,Go.Av.dJ,Go.Av.yS,Out.refl]
structure TO(r:Nat)(s:St)(c:Cs):Prop where
 D:Out r s.D c.s.D
 sl:mh c.s.sl
 n:(c.s.sl.n:Int)=s.pn
 st:s.still c.s
 J:c.s.J=s.J
def Ih{r:Nat}{s:St}(hr:cY s.jn s.pn=r)(hj:0<=s.jn):bM.fB (TO r s):=by
 refine⟨λc p h=>?_,λc n h=>?_,λc p h=>?_⟩
 .have hst:=h.st.trans (Bc c p);show TO r s (c.ld p).1;have key:TO r s (c.dev (iN c.s.D (x7 c.s.jn (p-1))).1):=⟨h.D.trans (PD r _ _),h.sl,h.n,h.st.trans ⟨rfl,rfl,rfl,rfl,rfl,rfl,rfl,rfl⟩,h.J⟩
  grind [Cs.ld]
 .have hst:=h.st.trans (Be c n);show TO r s (c.sv n).1;unfold Cs.sv at hst⊢;split
  .split
   .rename_i c1 c2;rw[ai c1,ai c2]at hst;obtain⟨m1,m2,m3,m4,m5⟩:=h.sl.take 1;obtain⟨q1,q2,q3⟩:=m5 c2;have hn:=h.n;have hjn:=h.st.2.2.2.2.2.1;refine⟨h.D.trans (PE _ _ _ ?_),m1,by grind,hst,h.J⟩
    grind [x7,cY]
   omega
  omega
 .exact⟨h.D,h.sl,h.n,h.st,h.J⟩
def Ii{r:Nat}{s:St}(h:mh s.sl)(hn:(s.sl.n:Int)=s.pn):TO r s ⟨s,[],[]⟩:=⟨Out.refl r _,h,hn,qv s,rfl⟩
def MC{r:Nat}{s:St}{X:eL}{M:jV}{t:Nat}(hS:gR t s)(ht:t<=30000)(h:kX r s X M){R:Go.cD.jX Cs}(hR:TO r s R.s)(count:Int):kX r (pM R count).1 X M/\(pM R count).1.dR=s.dR/\(pM R count).1.ord=s.ord/\(pM R count).1.ix=s.ix/\(pM R count).1.rm=s.rm/\Out r s.D (pM R count).1.D:=by
 obtain⟨s1,s2,s3,s4,s5,s6,s7,s8⟩:=hR.st;have xS:R.s.s.J.di.length<=1000000:=by rw[hR.J];have:=hS.J.xS;omega
 have hJ:JI R.s.s.J:=by rw[hR.J];exact h.J
 have RS:1+R.s.s.J.n<=r:=by rw[hR.J,h.jn];have:=h.r0;unfold cY at this;have:=hS.pn;omega
 have hc:=Ld hJ xS R.s.s.D (pS R.root count) RS;have hk:=hS.ix;unfold pM;split
 .have key:∀m,kX r {(R.s.s.commit R.root count).1 with sl:=m} X M:=λm=>h.out hk s1 s2 ⟨s6,s7⟩ ⟨hc.2.1,by rw[<-hR.J];exact hc.2.2⟩ (hR.D.trans hc.1);split
  .exact⟨key _,s3,s4,s1,s2,hR.D.trans hc.1⟩
  .exact⟨key _,s3,s4,s1,s2,hR.D.trans hc.1⟩
 .exact⟨h.out (u:=R.s.s.uv R.s.saved) hk s1 s2 ⟨s6,s7⟩ ⟨hJ,by show R.s.s.J.n=_;rw[hR.J]⟩ hR.D,s3,s4,s1,s2,hR.D⟩
def kX.free{r:Nat}{s:St}{X:eL}{M:jV}(hm:mh s.rm)(h:kX r s X M):kX r s.free X M:=⟨h.r0,h.J,h.jn,h.ap.commit hm,h.data,h.keys⟩
theorem Ij(s:St):pP s.free=pP s:=by simp[pP,St.free]
def Ed{r:Nat}{s:St}{X:eL}{M:jV}(hm:mh s.rm)(h:kX r s X M)(kind e:Int)(key:aF):kX r (s.wrote kind e key) X M/\pP (s.wrote kind e key)=pP s++[(kind,key)]/\(s.wrote kind e key).ord=s.ord/\(s.wrote kind e key).D=s.D:=by
 have h0:kX r {s with dR:=s.dR++[⟨kind,key,false⟩]} X M:=⟨h.r0,h.J,h.jn,h.ap,h.data,h.keys⟩;unfold St.wrote;split
 .exact⟨h0.free hm,by grind [Ij,pP],rfl,rfl⟩
 grind [pP]
def Ik{l:List Kn}{i:Nat}(hi:i<l.length):l=l.take i++l[i]::l.drop (i+1):=by
 simp
def Zc{l:List Kn}{i:Nat}(hi:i<l.length):l.getD i ux=l[i]:=by grind
def Il{r:Nat}{s:St}{X:eL}{M:jV}(hm:mh s.rm)(hs:Ke s.ix)(h:kX r s X M){i:Nat}(hi:i<s.ix.length):kX r (s.Le i) X (M.no s.ix[i].key):=by
 have hsp:=Ik hi;obtain⟨k,hk⟩:=lT (s.ix[i]);have hne:∀x∈s.ix.take i++s.ix.drop (i+1),x.key≠k.key:=by
  grind [Ke,List.pairwise_cons,Go.cD.nV]
 refine⟨h.r0,h.J,h.jn,?_,λx hx=>?_,λkey hM=>?_⟩
 .show ic (s.rm.gG (s.ix.getD i ux).exts) (Gi (s.ix.take i++s.ix.drop (i+1))++X);rw[Zc hi];refine ic.gG hm (h.ap.perm ?_)
  grind [AW,Cl]
 .have hx':x∈s.ix:=(Nf s.ix i).subset hx;obtain⟨e,b,h1,h2⟩:=h.data x hx';refine⟨e,b,?_,h2⟩;unfold jV.no;rw[hk,ah (hne x hx)];omega
 .unfold jV.no at hM;rw[hk]at hM;split at hM
  .grind
  .rename_i hkk;obtain⟨x,hx,hxk⟩:=h.keys key hM;refine⟨x,?_,hxk⟩;rw[hsp]at hx;rcases lD.1 hx with hx|hx
   .exact Bu _ hx
   .rcases fF.1 hx with hx|hx
    .grind
    .exact Kz _ hx
def aeO{r:Nat}{t:Nat}{s:St}(hS:gR t s)(hr:cY s.jn s.pn=r)(root:Int)(key:Go.cD.Key):TO r s (bM.jk ⟨s,[],[]⟩ root key).s:=(Ih hr (by have:=hS.jn;omega)).jk _ _ _ (Ii hS.sl hS.MS)
def aec{r:Nat}{t:Nat}{s:St}(hS:gR t s)(hr:cY s.jn s.pn=r)(root:Int)(key:Go.cD.Key)(v:Int):TO r s (bM.jm ⟨s,[],[]⟩ root key v).s:=(Ih hr (by have:=hS.jn;omega)).jm _ _ _ _ (Ii hS.sl hS.MS)
def Lf{r c:Nat}{s:St}{X:eL}{M:jV}(hB:Bd c s)(hc:c<=20000)(h:kX r s X M)(kind:Int){key:aF}(hb:qn s.ix key=true):kX r (s.remove kind key).1 X (if(s.remove kind key).2.1=true then M.no key else M)/\pP (s.remove kind key).1=pP s++(if(s.remove kind key).2.1=true then[(kind,key)]else[])/\(s.remove kind key).1.ord=s.ord/\Out r s.D (s.remove kind key).1.D:=by
 have hS:=hB.lM;have h2:200<=c:=by obtain⟨t,_,h2,h3⟩:=hB;omega
 obtain⟨h1,h3,h4,h5,h6,h7⟩:=MC hS O h (aeO hS h.r0 s.root key) (s.ix.length-1);have hSx:=Gj hS ⟨h2,hc⟩ key (s.ix.length-1);obtain⟨hi,hk⟩:=tN hb;unfold St.remove St.w7;generalize pM (bM.jk ⟨s,[],[]⟩ s.root key) (s.ix.length-1)=T at*;split
 .rename_i ct;have hi':gO T.1.ix key<T.1.ix.length:=by grind
  have ho:=Il hSx.rm hSx.RJ h1 hi';have hw:=Ed ((hSx.out _).rm) ho kind T.2.2 key;have hkk:T.1.ix[gO T.1.ix key].key=key:=by
   grind
  rw[hkk]at hw;refine⟨hw.1,?_,hw.2.2.1.trans h4,by rw[hw.2.2.2];exact h7⟩;rw[hw.2.1];show pP T.1++_=_
  grind [pP]
 grind [pP]
def Uf{r t:Nat}{s:St}{X:eL}{M:jV}(hS:gR t s)(h:kX r s X M):kX r s.sync.1 X M/\pP s.sync.1=pP s/\s.sync.1.ord=s.ord/\Out r s.D s.sync.1.D:=by
 have RS:1+s.J.n<=r:=by rw[h.jn];have:=h.r0;unfold cY at this;have:=hS.pn;omega
 have hd:=Cm h.J s.D RS;obtain⟨j1,j2,_⟩:=Er h.J s.D;have h0:kX r {s with J:=(s.J.settle s.D).1,D:=(s.J.settle s.D).2.1} X M:=h.out hS.ix rfl rfl ⟨rfl,rfl⟩ ⟨j1,j2⟩ hd;unfold St.sync;simp only;split
 .exact⟨h0.free hS.rm,Ij _,rfl,hd⟩
 .exact⟨h0,rfl,rfl,hd⟩
def jV.KF(M:jV)(ds:List (aF)):jV:=ds.foldl jV.no M
structure mE(r:Nat)(s u:St)(X:eL)(M:jV)(ds:List (aF)):Prop where
 h:kX r u X (M.KF ds)
 l:pP u=pP s++ds.map λk=>((4:Int),k)
 ord:u.ord=s.ord
 D:Out r s.D u.D
 dk:∀x∈ds,x.length<=1000
theorem mE.refl{r:Nat}{s:St}{X:eL}{M:jV}(h:kX r s X M):mE r s s X M []:=⟨h,H,rfl,Out.refl r _,H⟩
def Fy(M:jV)(a b:List (aF)):(M.KF a).KF b=M.KF (a++b):=by grind [jV.KF]
def mE.trans{r:Nat}{s u v:St}{X Y:eL}{M:jV}{a b:List (aF)}(h:mE r s u X M a)(k:mE r u v Y (M.KF a) b):mE r s v Y M (a++b):=⟨by rw[<-Fy];exact k.h,by rw[k.l,h.l];simp,k.ord.trans h.ord,h.D.trans k.D,λx hx=>(lD.1 hx).elim (h.dk x) (k.dk x)⟩
theorem Gk{r c:Nat}(hc:c<=19000){X:eL}(p:St->Bool):∀(n:Nat) (s:St) (M:jV),Bd c s->kX r s X M->∃ds,mE r s (s.uA p n).1 X M ds
 |0,s,M,_,h=>⟨[],mE.refl h⟩
 |n+1,s,M,hB,h=>by
  unfold St.uA;split
  .exact⟨[],mE.refl h⟩
  .split
   .rename_i hs;obtain⟨h1,h2,h3,h4⟩:=Uf hB.lM h;have hd:mE r s s.sync.1 X M []:=⟨h1,by grind,h3,h4,H⟩;split
    .rename_i h0;obtain⟨ds,d⟩:=Gk hc p n _ M (hB.Ng hs h0) h1;exact⟨_,hd.trans d⟩
    grind
   .split
    .exact⟨[],mE.refl h⟩
    .rename_i hx;have hb:=Cn hB hx;have ye:∀x∈[(fy s.ix s.ix.length).key],x.length<=1000:=λx hx=>by
      obtain⟨hi,hk⟩:=tN hb;have:=(hB.lM.ix _ (bB hi)).key
      grind
     obtain⟨h1,h2,h3,h4⟩:=Lf hB O h 4 hb;have D7:=hB.remove O 4 (fy s.ix s.ix.length).key hb;simp only;split
     .rename_i h0;have hd:=tO h0;rw[ai hd]at h1 h2 D7;obtain⟨ds,d⟩:=Gk hc p n _ _ D7 h1;have hd:mE r s (s.remove 4 (fy s.ix s.ix.length).key).1 X M [(fy s.ix s.ix.length).key]:=⟨h1,h2,h3,h4,ye⟩;exact⟨_,hd.trans d⟩
     .by_cases hd:(s.remove 4 (fy s.ix s.ix.length).key).2.1=true
      .rw[ai hd]at h1 h2;exact⟨[(fy s.ix s.ix.length).key],h1,by grind,h3,h4,ye⟩
      .rw[ah hd]at h1 h2;exact⟨[],h1,by grind,h3,h4,H⟩
def FB{r c:Nat}(hc:c<=19000){X:eL}{p:St->Bool}{s:St}{M:jV}(hB:Bd c s)(h:kX r s X M):∃ds,mE r s (s.o6 p).1 X M ds:=Gk hc p _ s M hB h
def Sm.oo(w:Sm)(x:dY):Sm×Int:=if w.bV.2.2=0 then(w.bV.1.dev (w.bV.1.s.D.write (cY w.bV.1.s.jn w.bV.1.s.pn+w.bV.2.1) [x]).1,(w.bV.1.s.D.write (cY w.bV.1.s.jn w.bV.1.s.pn+w.bV.2.1) [x]).2)else(w.bV.1,w.bV.2.2)
def eC:List dY->Sm->Sm×Int
 |[],w=>(w,0)
 |x::l,w=>if(w.oo x).2=0 then eC l (w.oo x).1 else w.oo x
theorem tw:∀(k:Nat) (l:List dY) (w w1:Sm),k<=l.length->eC (l.take k) w=(w1,0)->eC l w=eC (l.drop k) w1
 |0,l,w,w1,_,h=>by
  simp[eC]at h;subst h;rfl
 |k+1,[],_,_,hk,_=>by simp at hk
 |k+1,x::l,w,w1,hk,h=>by
  rw[jH,eC]at h;split at h
  .rename_i c;rw[eC,ai c,gJ];exact tw k l _ w1 (U hk) h
  .rename_i c;rw[h]at c;exact absurd rfl c
theorem Hf{c:Nat}(hc:c<=19000)(p:St->Bool):∀(n:Nat) (s:St),Bd c s->(s.uA p n).2=0->Bd c (s.uA p n).1
 |0,s,h,_=>h
 |n+1,s,h,h0=>by
  unfold St.uA at h0⊢;by_cases c1:p s=true
  .rw[ai c1];exact h
  .rw[ah c1]at h0⊢;by_cases c2:s.sure=false
   .rw[ai c2]at h0⊢;by_cases c3:s.sync.2=0
    .rw[ai c3]at h0⊢;exact Hf hc p n _ (h.Ng c2 c3) h0
    .rw[ah c3]at h0;exact absurd h0 c3
   .rw[ah c2]at h0⊢;by_cases c4:s.ix.length=0
    .rw[ai c4]at h0;simp at h0
    .rw[ah c4]at h0⊢;simp only at h0⊢;by_cases c5:(s.remove 4 (fy s.ix s.ix.length).key).2.2=0
     .rw[ai c5]at h0⊢;have h1:=h.remove O 4 (fy s.ix s.ix.length).key (Cn h c4);rw[ai (tO c5)]at h1;exact Hf hc p n _ h1 h0
     .rw[ah c5]at h0;exact absurd h0 c5
def tH{c:Nat}(hc:c<=19000){p:St->Bool}{s:St}(h:Bd c s)(h0:(s.o6 p).2=0):Bd c (s.o6 p).1:=Hf hc p _ s h h0
def gR.room{t:Nat}{s:St}(h:gR t s){m:Mp}(hm:mh m)(hn:m.n=s.rm.n):gR t {s with rm:=m}:=⟨h.D,h.J,h.jn,h.pn,h.sz,h.sl,hm,h.MS,(by show(m.n:Int)=_;rw[hn];exact h.OX),h.dR,h.RQ,h.ix,h.RJ,h.root,h.ord⟩
def Bd.room{c:Nat}{s:St}(h:Bd c s){m:Mp}(hm:mh m)(hn:m.n=s.rm.n):Bd c {s with rm:=m}:=by
 obtain⟨t,h1,h2,h3⟩:=h;exact⟨t,h1.room hm hn,h2,h3⟩
def Re{c:Nat}{w:Sm}(h:Bd c w.s):Bd c w.longer.1.s:=by
 unfold Sm.longer;split
 .exact h
 .exact h.room (h.lM.rm.hold _).1 (h.lM.rm.hold _).2
def E2{l:eL}(h:qG l):-1<=mC l/\mC l<=200000:=ZF λx hx=>by have:=h.bo x hx;omega
def E3{c:Nat}{w:Sm}(h:Bd c w.s)(hb:qG w.e.body)(hp:w.longer.2=true\/iE w.s=true):Bd c w.cG.1.s/\qG w.cG.1.e.body/\-1<=w.cG.2.1/\w.cG.2.1<=200000:=by
 have hl:=uT h.lM.rm hb;unfold Sm.cG;by_cases c1:w.longer.2=true
 .rw[ai c1];exact⟨Re h,hl.1,E2 hl.1⟩
 .rw[ah c1];have hF:0<xV w.s.rm.F:=by have:=hp.resolve_left c1;unfold iE at this;simpa using this
  by_cases c2:w.e.body.length=8
  .rw[ai c2];exact⟨h,hb,H,H⟩
  .rw[ah c2];have qo:=h.lM.rm;have hT:=qo.take 1;have hn:=qo.n;have Bx:(w.s.rm.take 1).2.2=true:=by unfold Mp.take;rw[ai ⟨O,Fs qo hF⟩]
   obtain⟨q1,q2,q3⟩:=hT.2.2.2.2 Bx;have hB:qG (w.e.body++[(w.s.rm.take 1).2.1]):=by
    have:=hb.bl;refine⟨by simp;omega,λe he=>?_⟩;rcases lD.1 he with he|he
    .exact hb.bo e he
    .simp only[gK]at he;subst he;have:=hT.2.2.1;omega
   exact⟨h.room hT.1 hT.2.1,hB,E2 hB⟩
def vI{c:Nat}(hc:c<=18000){w:Sm}(h:Bd c w.s)(hb:qG w.e.body):(w.bV.2.2=0->Bd c w.bV.1.s)/\Bd (c+24) w.bV.1.s/\qG w.bV.1.e.body/\-1<=w.bV.2.1/\w.bV.2.1<=200000:=by
 unfold Sm.bV;by_cases c1:w.longer.2=true
 .rw[ai c1];obtain⟨h1,h2,h3⟩:=E3 h hb (.inl c1);exact⟨λ_=>h1,h1.up O,h2,h3⟩
 .rw[ah c1];by_cases c2:(w.s.o6 iE).2=0
  .rw[ai c2];obtain⟨h1,h2,h3⟩:=E3 (w:=w.at (w.s.o6 iE).1) (tH O h c2) hb (.inr (tG O h c2));exact⟨λ_=>h1,h1.up O,h2,h3⟩
  .rw[ah c2];exact⟨λe=>absurd e c2,ya O h,hb,H,H⟩
theorem Bd.dev{c n:Nat}{s:St}(h:Bd c s){D:bt}(hD:∀t,200<=t->fJ (t*t) s.D->fJ ((t+n)*(t+n)) D)(hk:D.kept.length=s.D.kept.length):Bd (c+n) {s with D:=D}:=by
 obtain⟨t,h1,h2,h3⟩:=h;exact⟨t+n,h1.dev O (hD t h2 h1.D) hk,O,by simp only;omega⟩
def sq1(t:Nat):(t+1)*(t+1)=t*t+2*t+1:=by rw[oz,yu];omega
def Bd.wr{c:Nat}{s:St}(h:Bd c s)(a:Int)(l:List dY)(hl:l.length<=400):Bd (c+1) {s with D:=(s.D.write a l).1}:=h.dev (λt ht hd=>(hd.write a l).up (by rw[sq1];omega)) (by rw[fA])
def Od{c:Nat}(hc:c<=18000){w:Sm}(h:Bd c w.s)(hb:qG w.e.body)(x:dY):((w.oo x).2=0->Bd (c+1) (w.oo x).1.s)/\Bd (c+25) (w.oo x).1.s/\qG (w.oo x).1.e.body:=by
 obtain⟨h1,h2,h3,_⟩:=vI hc h hb;unfold Sm.oo;split
 .rename_i c1;have h4:=(h1 c1).wr (cY w.bV.1.s.jn w.bV.1.s.pn+w.bV.2.1) [x] H;exact⟨λ_=>h4,h4.up O,h3⟩
 .rename_i c1;exact⟨λe=>absurd e c1,h2.up O,h3⟩
theorem sK:∀(l:List dY) {c:Nat} (_:c+l.length<=18000) {w:Sm} (_:Bd c w.s) (_:qG w.e.body),((eC l w).2=0->Bd (c+l.length) (eC l w).1.s)/\Bd (c+l.length+24) (eC l w).1.s/\qG (eC l w).1.e.body
 |[],c,_,w,h,hb=>⟨λ_=>h,h.up O,hb⟩
 |x::l,c,hc,w,h,hb=>by
  rw[cF]at hc;obtain⟨h1,h2,h3⟩:=Od O h hb x;rw[eC,cF,show c+(l.length+1)=c+1+l.length by omega];split
  .rename_i c1;exact sK l O (h1 c1) h3
  .rename_i c1;exact⟨λe=>absurd e c1,h2.up O,h3⟩
end Go.aL
namespace Go.Av
open Go.Proofs Go.Proofs.Tryz Go.aL
def vr{c0:Nat}(w:Sm)(h:Bd c0 w.s)(hB:qG w.e.body)(b:aF)(hb:b.length<=500000)(hc0:c0+(b.length+63)/64<=18000):bN 59 [.obj 7 0,.p (cK b)] ⟨fm 0 8 w,cH 8,19⟩ (.p (.int (eC (b9 b) w).2)) ⟨fm 0 19 (eC (b9 b) w).1,cH 19,30⟩:=by
 have hS:=vo b O;have K0:=dJ b;rw[<-K0]at hc0;generalize b9 b=L at hc0 hS K0⊢;generalize hZ:eC L w=Z;refine aq [_] [] [(6,[(3,.r 1),(7,.r 2),(11,.r 1),(14,.r 2),(15,.w [1,2]),(20,.w [1,2])])] [(1,7),(2,6)] func59 rfl ?_;simp;refine cm hS ?_;simp;refine aS (λa:Nat×Sm=>a.1<=L.length/\eC (L.take a.1) w=(a.2,0)) (λa=>[(0,.obj 7 0),(10,.p (.sl (L.map cK))),(11,.p (.int L.length)),(12,.p (.int a.1))]) (λa=>⟨fm 0 19 a.2,cH 19,30⟩) (λa=>L.length-a.1) (0,w) (by simp[eC]) _ (AS.le_refl _ _) (aE [(19,8),(20,9),(21,10),(22,11),(23,12),(24,13),(25,14),(26,15),(27,16),(28,17),(29,18)] (by simp[fm,fC,eF,aH,aj,ak,aR,aM,aJ,aP])) ?_;rintro⟨k,v⟩ ⟨q1,q2⟩;simp only at q1 q2;have hsp:=tw k L w v q1 q2;rw[hZ]at hsp;by_cases ck:k<L.length
 .have hlt:(L.take k).length=k:=by simp;omega
  have hbd:=sK (L.take k) (by rw[hlt];omega) h hB;rw[q2,hlt]at hbd;obtain⟨O',_,zJ⟩:=hbd;have O':=O' rfl;obtain⟨_,hO,hO2,eM⟩:=vI (c:=c0+k) O O' zJ;have hO:=hO.lM;obtain⟨x,hx⟩:=lT (L[k]);have Dz:=KC (c:=c0+k) O v O' zJ;have wk:=ju k;rw[eK ck,hx,eC]at hsp;unfold Sm.oo at hsp;have lF:L.take (k+1)=L.take k++[x]:=by rw[kG ck,hx]
  have hD:=hO.D;have SF:=hO.pn;have hjn:=hO.jn;have e1:(L.take (k+1)).take k=L.take k:=by rw[qY,eS O]
  have e2:=tw k (L.take (k+1)) w v (by simp;omega) (by rw[e1];exact q2);have e3:(L.take k++[x]).drop k=[x]:=kr (by simp;omega);rw[lF,e3,eC]at e2;unfold Sm.oo at e2;generalize hY:v.bV=Y at Dz eM hsp hD SF hjn e2;obtain⟨u,a,e⟩:=Y;simp only at Dz eM hsp hD SF hjn e2;clear hY hO hO2 q2 e1;simp[ck,hx];refine xQ [0,1,2,3,4,5,6,7,19,20,21,22,23,24,25,26,27,28,29] Dz ?_;by_cases c:e=0
  .subst c;simp only[cr]at hsp e2;have Pz:cY u.s.jn u.s.pn=1+u.s.jn+u.s.pn*8:=rfl;have qo:=yO u.s.jn u.s.pn O O;have w3:IntKind.i64.wrap (cY u.s.jn u.s.pn+a)=cY u.s.jn u.s.pn+a:=aG;have jC:=tL u.s.D ((c0+k+24)*(c0+k+24)) hD (cY u.s.jn u.s.pn+a) O [x] H (by have:=Uc (t:=c0+k+24) O;simp;omega);generalize hY:u.s.D.write (cY u.s.jn u.s.pn+a) [x]=Y at jC hsp e2;obtain⟨D',e'⟩:=Y;simp only at jC hsp e2;simp[fm,fC,eF,aH,aj,ak,aR,aM,aJ,aP];refine jf [0] qo ?_;simp[w3];refine wu [0,1,2,30] jC ?_;by_cases cc:e'=0
   .subst cc;simp only[cr,eC]at hsp e2;simp[wk,ak];exact⟨k+1,u.dev D',⟨O,by rw[lF];exact e2⟩,O,aE [(19,41),(20,31),(21,32),(22,33),(23,34),(24,35),(25,36),(26,37),(27,38),(28,39),(29,40)] (by simp[Sm.dev])⟩
   .have cc':(e' !=0)=true:=U cc;simp only[cc,dc]at hsp;rw[hsp];simp[-az,Sm.dev,ak,cc',results59];exact⟨[(19,41),(20,31),(21,32),(22,33),(23,34),(24,35),(25,36),(26,37),(27,38),(28,39),(29,40)],H⟩
  .have c':(e !=0)=true:=U c;have c'':(e==0)=false:=U c;simp only[c,dc]at hsp;rw[hsp];simp[-az,fm,fC,eF,aH,aj,ak,aR,aM,aJ,aP,c',c'',results59];exact⟨[(19,30),(20,31),(21,32),(22,33),(23,34),(24,35),(25,36),(26,37),(27,38),(28,39),(29,40)],H⟩
 .obtain rfl:k=L.length:=O;rw[sM]at hsp;rw[hsp];simp[-az,fm,fC,eF,aH,aj,ak,aR,aM,aJ,aP,eC,results59];exact⟨[],H⟩
end Go.Av
namespace Go.aL
open Go.Av
def kX.room{r:Nat}{s:St}{X Y:eL}{M:jV}(h:kX r s X M){m:Mp}(hm:ic m (Gi s.ix++Y)):kX r {s with rm:=m} Y M:=⟨h.r0,h.J,h.jn,hm,h.data,h.keys⟩
structure Q0(r:Nat)(l l':eL)(p:Nat):Prop where
 um:∀L:List dY,um L r l'=um L r l++(seg L (r+p) 1).flatten
 cnt:∀i,cnt l' i=cnt l i+if i=p then 1 else 0
 sum:mq l'=mq l+1
def WC(r:Nat)(l:eL){x:Int×Int}(h0:0<=x.1)(h1:x.2=1):Q0 r l (l++[x]) x.1.toNat:=by
 refine⟨λL=>by grind [GU,GV],λi=>?_,by rw[ud,h1]⟩
 grind [gW,AQ,AP]
def Q5(r:Nat)(l:eL){x:Int×Int}(h0:0<=x.1)(h1:0<=x.2):Q0 r (l++[x]) (l++[(x.1,x.2+1)]) (x.1+x.2).toNat:=by
 refine⟨λL=>?_,λi=>?_,by rw[ud,ud];omega⟩
 .rw[GU,GU,GV,GV,cW];congr 1;have e1:(x.2+1).toNat=x.2.toNat+1:=O
  grind [wQ]
 grind [gW,AQ,AP]
theorem L6{r:Nat}{w:Sm}{X:eL}{M:jV}(hm:mh w.s.rm)(hb:qG w.e.body)(h:kX r w.s (w.e.body++X) M)(hl:w.longer.2=true):kX r w.longer.1.s (w.longer.1.e.body++X) M/\Q0 r w.e.body w.longer.1.e.body (mC w.longer.1.e.body).toNat/\w.longer.1.s.D=w.s.D/\w.longer.1.s.dR=w.s.dR/\w.longer.1.s.ord=w.s.ord/\0<=mC w.longer.1.e.body:=by
 rcases uK w.e.body with hc|⟨l,x,hc⟩
 .grind [Sm.longer]
 .rw[xU]at hc;have hx:=hb.bo x (by grind);unfold Sm.longer at hl⊢;rw[hc]at hl⊢;simp only[List.getLast?_append,List.getLast?_singleton,Option.some_or,BQ]at hl⊢;simp only[hl,cr];rw[hc]at h;have hap:ic w.s.rm (x::(Gi w.s.ix++(l++X))):=h.ap.perm (by
   grind)
  obtain⟨a1,a2⟩:=hap.held hm hl;have ag5:ic (w.s.rm.hold [(x.1+x.2,1)]).1 (Gi w.s.ix++((l++[(x.1,x.2+1)])++X)):=a1.perm (by
   grind)
  have hla:mC (l++[(x.1,x.2+1)])=x.1+x.2:=by grind [mC]
  rw[hla];exact⟨h.room ag5,Q5 r l hx.1 O,H,H,H,O⟩
def L7{r:Nat}{w:Sm}{X:eL}{M:jV}(hm:mh w.s.rm)(hb:qG w.e.body)(h:kX r w.s (w.e.body++X) M)(hp:w.longer.2=true\/iE w.s=true):kX r w.cG.1.s (w.cG.1.e.body++X) M/\(w.cG.2.2=0->Q0 r w.e.body w.cG.1.e.body w.cG.2.1.toNat/\0<=w.cG.2.1)/\w.cG.1.s.D=w.s.D/\w.cG.1.s.dR=w.s.dR/\w.cG.1.s.ord=w.s.ord:=by
 unfold Sm.cG;by_cases c1:w.longer.2=true
 .grind [L6]
 .rw[ah c1];have hF:0<xV w.s.rm.F:=by grind [iE]
  split
  .grind
  .have hT:=hm.take 1;have Bx:(w.s.rm.take 1).2.2=true:=by grind [Mp.take,Fs]
   obtain⟨q1,q2,q3⟩:=hT.2.2.2.2 Bx;obtain⟨a1,_⟩:=h.ap.taken hm Bx;have ag5:ic (w.s.rm.take 1).1 (Gi w.s.ix++((w.e.body++[(w.s.rm.take 1).2.1])++X)):=a1.perm (by
    grind)
   have hla:mC (w.e.body++[(w.s.rm.take 1).2.1])=(w.s.rm.take 1).2.1.1:=by grind [mC]
   have h0:=hT.2.2.1;rw[hla];exact⟨h.room ag5,λ_=>⟨WC r _ h0 q3,h0⟩,rfl,rfl,rfl⟩
def xK{r:Nat}{w:Sm}{X:eL}{M:jV}(hm:mh w.s.rm)(hb:qG w.e.body)(h:kX r w.s (w.e.body++X) M)(hp:w.longer.2=true\/iE w.s=true):mE r w.s w.cG.1.s (w.cG.1.e.body++X) M []/\(w.cG.2.2=0->Q0 r w.e.body w.cG.1.e.body w.cG.2.1.toNat/\0<=w.cG.2.1):=by
 obtain⟨h1,h2,h3,h4,h5⟩:=L7 hm hb h hp;exact⟨⟨h1,by grind [pP],h5,by grind [Out.refl],H⟩,h2⟩
def Ju{r c:Nat}(hc:c<=18000){w:Sm}{X:eL}{M:jV}(hB:Bd c w.s)(hb:qG w.e.body)(h:kX r w.s (w.e.body++X) M):∃ds,mE r w.s w.bV.1.s (w.bV.1.e.body++X) M ds/\(w.bV.2.2=0->Q0 r w.e.body w.bV.1.e.body w.bV.2.1.toNat/\0<=w.bV.2.1):=by
 unfold Sm.bV;by_cases c1:w.longer.2=true
 .rw[ai c1];exact⟨[],xK hB.lM.rm hb h (.inl c1)⟩
 .rw[ah c1];obtain⟨ds,d⟩:=FB (p:=iE) O hB h;by_cases c2:(w.s.o6 iE).2=0
  .rw[ai c2];obtain⟨h1,h2⟩:=xK (w:=w.at (w.s.o6 iE).1) (ya O hB).lM.rm hb d.h (.inr (tG O hB c2));exact⟨_,d.trans h1,h2⟩
  .rw[ah c2];exact⟨ds,d,λe=>absurd e c2⟩
structure Fix(w u:Sm):Prop where
 rest:u.rest=w.rest
 ended:u.ended=w.ended
 kept:u.kept=w.kept
 e:∃b,u.e={w.e with body:=b}
theorem Fix.refl(w:Sm):Fix w w:=⟨rfl,rfl,rfl,_,rfl⟩
def Fix.trans{w u v:Sm}(h:Fix w u)(k:Fix u v):Fix w v:=by
 obtain⟨b,hb⟩:=h.e;obtain⟨c,hc⟩:=k.e;exact⟨k.rest.trans h.rest,k.ended.trans h.ended,k.kept.trans h.kept,c,by grind⟩
def L8(w:Sm):Fix w w.longer.1:=by
 unfold Sm.longer;split
 .exact Fix.refl w
 .exact⟨rfl,rfl,rfl,_,rfl⟩
def Af(w:Sm):Fix w w.cG.1:=by
 unfold Sm.cG;split
 .exact L8 w
 .split
  .exact Fix.refl w
  .exact⟨rfl,rfl,rfl,_,rfl⟩
def Jv(w:Sm):Fix w w.bV.1:=by
 unfold Sm.bV;split
 .exact Af w
 .split
  .exact Fix.trans (u:=w.at (w.s.o6 iE).1) ⟨rfl,rfl,rfl,_,rfl⟩ (Af _)
  .exact⟨rfl,rfl,rfl,_,rfl⟩
def Jw(w:Sm)(x:dY):Fix w (w.oo x).1:=by
 have h:=Jv w;unfold Sm.oo;split
 .exact h.trans ⟨rfl,rfl,rfl,_,rfl⟩
 omega
theorem yx:∀(l:List dY) (w:Sm),Fix w (eC l w).1
 |[],w=>Fix.refl w
 |x::l,w=>by
  rw[eC];split
  .exact(Jw w x).trans (yx l _)
  .exact Jw w x
theorem WD:∀(l:List dY) (a:Nat) (D:bt),a+l.length<=D.now.length->(D.lay a l).now=ov D.now a l
 |[],_,_,_=>(VN _ _).symm
 |b::l,a,D,h=>by
  rw[cF]at h;have ih:=WD l (a+1) {D with q:=D.q++[(a,b)],now:=D.now.set a b} (by grind)
  grind [bt.lay,VM]
structure Wrt(D E:bt)(a:Nat)(l:List dY)(e:Int):Prop where
 kept:E.kept=D.kept
 bad:E.bad=D.bad
 left:D.left=-1->E.left=-1
 nl:E.now.length=D.now.length
 ok:e=0->a+l.length<=D.now.length/\E.now=ov D.now a l
 no:e≠0->E.now=D.now
def yU{D:bt}(hD:D.now.length=D.kept.length){a:Nat}(l:List dY):Wrt D (D.write (a:Int) l).1 a l (D.write (a:Int) l).2:=by
 have hn:=qg 0 D;obtain⟨n1,n2,n3,n4⟩:=Go.Av.lg D;unfold bt.write;by_cases c:D.there (a:Int) l.length=true/\l.all (λb=>b.length==64)=true
 .rw[ai c];have hr:a+l.length<=D.now.length:=by
   grind [bt.there]
  by_cases d:D.next.2=0
  .rw[ai d];obtain⟨k1,k2,k3,k4,k5,k6⟩:=Go.Av.Cz D.next.1 (a:Int).toNat l;refine⟨by grind,by grind,λe=>by rw[k4];exact hn.left e,by grind,λ_=>⟨hr,?_⟩,λe=>O⟩
   grind [WD]
  .rw[ah d];exact⟨n1,n4,hn.left,by grind,λe=>absurd e d,λ_=>n2⟩
 .rw[ah c];exact⟨rfl,rfl,id,rfl,λe=>O,λ_=>rfl⟩
structure mL(r:Nat)(s u:St)(X:eL)(M:jV)(ds:List (aF)):Prop where
 h:kX r u X (M.KF ds)
 l:pP u=pP s++ds.map λk=>((4:Int),k)
 ord:u.ord=s.ord
 bad:u.D.bad=s.D.bad
 left:s.D.left=-1->u.D.left=-1
 kl:u.D.kept.length=s.D.kept.length
 dk:∀x∈ds,x.length<=1000
def mE.runs{r:Nat}{s u:St}{X:eL}{M:jV}{ds:List (aF)}(h:mE r s u X M ds):mL r s u X M ds:=⟨h.h,h.l,h.ord,h.D.bad,h.D.left,h.D.kl,h.dk⟩
theorem mL.refl{r:Nat}{s:St}{X:eL}{M:jV}(h:kX r s X M):mL r s s X M []:=(mE.refl h).runs
def mL.trans{r:Nat}{s u v:St}{X Y:eL}{M:jV}{a b:List (aF)}(h:mL r s u X M a)(k:mL r u v Y (M.KF a) b):mL r s v Y M (a++b):=⟨by rw[<-Fy];exact k.h,by rw[k.l,h.l];simp,k.ord.trans h.ord,k.bad.trans h.bad,λe=>k.left (h.left e),k.kl.trans h.kl,λx hx=>(lD.1 hx).elim (h.dk x) (k.dk x)⟩
def kX.wr{r b:Nat}{s:St}{X:eL}{M:jV}(hD:fJ b s.D)(hk:∀k∈s.ix,KH k)(h:kX r s X M){p:Nat}{l:List dY}(hp:∀i,p<=i->i<p+l.length->1<=cnt X i):mL r s {s with D:=(s.D.write (((r+p:Nat)):Int) l).1} X M []:=by
 have hw:=yU hD.len (a:=r+p) l;refine⟨h.dev hk rfl rfl ⟨rfl,rfl⟩ ⟨h.J,rfl⟩ λi hi=>?_,by simp[pP],rfl,hw.bad,hw.left,by show(s.D.write _ _).1.kept.length=_;rw[hw.kept],H⟩;show(s.D.write _ _).1.now[r+i]?=_;by_cases c:(s.D.write (((r+p:Nat)):Int) l).2=0
 .obtain⟨h1,h2⟩:=hw.ok c;rw[h2,yV h1];have hone:=h.ap.one i
  grind [gW]
 .rw[hw.no c]
def WE{r c:Nat}(hc:c<=18000){w:Sm}{X:eL}{M:jV}(hB:Bd c w.s)(hb:qG w.e.body)(h:kX r w.s (w.e.body++X) M)(x:dY):∃ds,mL r w.s (w.oo x).1.s ((w.oo x).1.e.body++X) M ds/\((w.oo x).2=0->um (w.oo x).1.s.D.now r (w.oo x).1.e.body=um w.s.D.now r w.e.body++x/\mq (w.oo x).1.e.body=mq w.e.body+1):=by
 obtain⟨ds,d,hP⟩:=Ju hc hB hb h;obtain⟨_,hB2,oK,_⟩:=vI hc hB hb;unfold Sm.oo;by_cases c1:w.bV.2.2=0
 .rw[ai c1];obtain⟨P,p0⟩:=hP c1;generalize w.bV=Y at*;obtain⟨u,a,e⟩:=Y;simp only at d P p0 hB2 oK⊢;have ha:cY u.s.jn u.s.pn+a=((r+a.toNat:Nat):Int):=by rw[d.h.r0];omega
  rw[ha];have iQ:=P.cnt a.toNat;rw[ai rfl]at iQ;have hS:=hB2.lM;have hw:=yU hS.D.len (a:=r+a.toNat) [x];have hr:=d.h.wr hS.D hS.ix (p:=a.toNat) (l:=[x]) λi h1 h2=>by
   grind [gW]
  refine⟨ds++[],d.runs.trans hr,λe0=>⟨?_,P.sum⟩⟩;obtain⟨k1,k2⟩:=hw.ok e0;show um (u.s.D.write _ _).1.now r u.e.body=_;rw[P.um,k2];have hone:=d.h.ap.one a.toNat;rw[gW,gW]at hone;congr 1
  .refine sy (λy hy=>by have:=hb.bo y hy;omega) λi hi=>?_;have hne:i≠a.toNat:=by grind
   rw[yV k1];simp only[cF,fQ];split
   .exact d.D.up _ O
   .rw[ah O];exact d.D.up _ O
  grind [mN]
 .rw[ah c1];exact⟨ds,d.runs,λe=>absurd e c1⟩
theorem yw{r:Nat}{X:eL}:∀(l:List dY) {c:Nat} (_:c+l.length<=18000) {w:Sm} {M:jV} (_:Bd c w.s) (_:qG w.e.body) (_:kX r w.s (w.e.body++X) M),∃ds,mL r w.s (eC l w).1.s ((eC l w).1.e.body++X) M ds/\((eC l w).2=0->um (eC l w).1.s.D.now r (eC l w).1.e.body=um w.s.D.now r w.e.body++l.flatten/\mq (eC l w).1.e.body=mq w.e.body+l.length)
 |[],c,_,w,M,hB,hb,h=>⟨[],mL.refl h,λ_=>by simp[eC]⟩
 |x::l,c,hc,w,M,hB,hb,h=>by
  rw[cF]at hc;obtain⟨ds,d,ho⟩:=WE O hB hb h x;obtain⟨g1,g2,g3⟩:=Od O hB hb x;rw[eC];split
  .rename_i c1;obtain⟨es,e,hq⟩:=yw l O (g1 c1) g3 d.h;exact⟨_,d.trans e,λe0=>⟨by grind,by grind⟩⟩
  grind
def Sm.BV(w:Sm):Sm:={w with s:=w.s.back w.e.body,ended:=true}
def Sm.got(w:Sm)(b:aF):Sm×Int:=eC (b9 ((w.rest++b).take ((w.rest++b).length/64*64))) (w.cnt b)
def Sm.aQ(w:Sm)(b:aF):Sm×Int:=if(w.got b).2=0 then({(w.got b).1 with rest:=(w.rest++b).drop ((w.rest++b).length/64*64)},0)else((w.got b).1.BV,(w.got b).2)
end Go.aL
namespace Go.Av
open Go.Proofs Go.Proofs.Tryz Go.aL
def iT(o:Nat)(w:Sm):Ob:=⟨141,19,[.obj o 0,.p (.str w.e.uri),.p (.sl (w.e.names.map PC.str)),.p (.str w.e.var),.p (.str w.e.st.m),.p (.str w.e.st.t),.p (.int w.e.st.st),.p (.str w.e.st.r),.p (.int w.e.st.mi),.p (.sl (w.e.fields.map oL)),.p (.int w.e.asked),.p (.int w.e.got),.p (.int w.e.order),.p (.int w.e.size),.p (kR w.e.sum),.p (.sl (w.e.body.map dO)),.p (cK w.rest),.p (.bool w.ended),.p (.bool w.kept)]⟩
def zU(b u:Nat)(w:Sm):List (Nat×Ob):=(b+7,iT (b+6) w)::aH b u w.s
def NA(w:Sm)(he:w.ended=false)(hm:mh w.s.rm)(hl:w.e.body.length<=900):bN 37 [.obj 7 0] ⟨zU 0 8 w,cH 8,18⟩ (.agg true []) ⟨zU 0 18 w.BV,cH 18,28⟩:=by
 have hbk:=wZ w.s hm w.e.body hl;refine aq [] [] [(2,[(3,.r 1),(8,.r 1),(9,.w [1])])] [(1,7)] func37 rfl ?_;simp[zU,iT,aH,aj,ak,aR,aM,aJ,aP,he];refine pR [0,1,2,3,4,5,6,8,9,10,11,12,13,14,15,16,17] hbk ?_;simp[-az,Sm.BV,aH,aj,ak,aR,aM,aJ,aP,results37];exact⟨[],H⟩
def ahh(w:Sm)(he:w.ended=false)(hm:mh w.s.rm)(hl:w.e.body.length<=900):bN 37 [.obj 7 0] ⟨fm 0 8 w,cH 8,19⟩ (.agg true []) ⟨zU 0 19 w.BV,cH 19,29⟩:=by
 have hbk:=wZ w.s hm w.e.body hl;refine kQ (rs:=[]) [] [(2,[(3,.r 1),(8,.r 1),(9,.w [1])])] [(1,7)] func37 rfl bp bp (by simp[ntmps37]) rfl ?_;refine iF mixed [(0,.obj 7 0)] ⟨fm 0 8 w,cH 8,19⟩ ?_ ?_
 .simp[fm,fC,eF,aH,aj,ak,aR,aM,aJ,aP,he];exact aB H
 refine qP (Nz 7 15 18 w.e.body.length 2 none (fC 6 18 w) (eF w.e.body) (w.e.body.map dO) rfl rfl O rfl rfl O (by simp[eF]) (by rw[AL];exact gv (by simp[eF])) H (by intro y hy;obtain⟨a,_,rfl⟩:=bE.1 hy;rfl) (by intro y hy;obtain⟨a,_,rfl⟩:=bE.1 hy;rfl)) ?_;refine g_ mixed ?_;simp[fm,fC,eF,aH,aj,ak,aR,aM,aJ,aP,Tb.aY,Tb.cV,del];refine pR [0,1,2,3,4,5,6,8,9,10,11,12,13,14,15,16,17] hbk ?_;simp[-az,Sm.BV,zU,iT,aH,aj,ak,aR,aM,aJ,aP,results37];exact⟨[(19,20),(20,21),(21,22),(22,23),(23,24),(24,25),(25,26),(26,27),(27,28),(28,29)],H⟩
structure HD(c:Nat)(w:Sm)(b:aF):Prop where
 s:Bd c w.s
 body:qG w.e.body
 c:c<=17000
 bn:b.length<=30000
 sz:0<=w.e.size/\w.e.size+b.length<=1048576
 sm:w.e.sum<4294967296
 rs:w.rest.length<=64
 ended:w.ended=false
def Fx{c:Nat}{w:Sm}{b:aF}(h:HD c w b):((w.got b).2=0->Bd (c+500) (w.got b).1.s)/\Bd (c+524) (w.got b).1.s/\qG (w.got b).1.e.body:=by
 have hb:=h.bn;have hr:=h.rs;have hc:=h.c;have hn:(b9 ((w.rest++b).take ((w.rest++b).length/64*64))).length<=500:=by rw[dJ];simp;omega
 obtain⟨h1,h2,h3⟩:=sK (b9 ((w.rest++b).take ((w.rest++b).length/64*64))) (c:=c) O (w:=w.cnt b) h.s h.body;exact⟨λe=>(h1 e).up O,h2.up O,h3⟩
def Rf{c:Nat}{w:Sm}{b:aF}(h:HD c w b):(w.got b).1.ended=false:=by
 unfold Sm.got;have:∀(l:List dY) (w:Sm),(eC l w).1.ended=w.ended:=by
  intro l
  induction l with
  |nil=>intro w;rfl
  |cons x l ih=>
   intro w;have h1:(w.oo x).1.ended=w.ended:=by
    have hs:∀w:Sm,w.cG.1.ended=w.ended:=λw=>by
     unfold Sm.cG;split
     .unfold Sm.longer;split<;>rfl
     .split<;>rfl
    have hg:w.bV.1.ended=w.ended:=by
     unfold Sm.bV;split
     .exact hs w
     .split
      .exact hs _
      .rfl
    unfold Sm.oo;split<;>exact hg
   rw[eC];split
   .rw[ih,h1]
   .exact h1
 rw[this];exact h.ended
def Lr{c:Nat}(w:Sm)(L:List (aF))(hL:L.length<=1000000)(h:HD c w L.flatten)(hz:(w.aQ L.flatten).2=0):bN 14 [.obj 7 0,.p (.sl (L.map cK))] ⟨fm 0 8 w,cH 8,19⟩ (.p (.int 0)) ⟨fm 0 19 (w.aQ L.flatten).1,cH 19,30⟩:=by
 obtain⟨hs,hbd,hc,hb,hsz,sx,qu,he⟩:=h;have Ox:=EA L O O;generalize hb:L.flatten=b at hz hsz Ox⊢;rename_i hb0;rw[hb]at hb0;have hmo:=K8 w.e.sum sx [b] H (by simp;omega);have RI:=EA [w.rest,b] (by simp;omega) H;have hff:[w.rest,b].flatten=w.rest++b:=H;have hf1:[b].flatten=b:=H;rw[hff]at RI;rw[hf1]at hmo;generalize hZ:(w.aQ b).1=Z;have DV:(w.got b).2=0:=by
  unfold Sm.aQ at hz;split at hz
  .rename_i e;exact e
  .exact hz
 unfold Sm.aQ at hZ;rw[ai DV]at hZ;unfold Sm.got at hZ DV;simp only at hZ DV;generalize hB:w.rest++b=B at hZ DV RI;have hBl:B.length<=30064:=by rw[<-hB,mo];omega
 generalize hn:B.length/64*64=n at hZ DV;have RH:n<=B.length:=O;have Dz:=vr (c0:=c) (w.cnt b) hs hbd (B.take n) (by simp;omega) (by simp;omega);generalize hY:eC (b9 (B.take n)) (w.cnt b)=Y at Dz hZ DV;obtain⟨u,e⟩:=Y;simp only at Dz hZ DV;subst DV;have w1:IntKind.i64.wrap (1048576-w.e.size)=1048576-w.e.size:=aG;have w2:IntKind.i64.wrap (w.e.size+(b.length:Int))=w.e.size+b.length:=aG;have c1:¬(1048576-w.e.size<(b.length:Int)):=O;have wn:IntKind.i64.wrap (IntKind.i64.wrap ((B.length:Int)/64)*64)=(n:Int):=by
  have q0:IntKind.i64.wrap ((B.length:Int)/64)=(B.length:Int)/64:=aG;rw[q0,aG];omega
 have lF:List.take n (af B)=af (B.take n):=by simp[af]
 have DU:List.drop n (af B)=af (B.drop n):=by simp[af]
 refine aC [_] func14 rfl ?_;simp[fm,fC,eF,aH,aj,ak,aR,aM,aJ,aP,he];refine cm Ox ?_;simp[w1,w2,c1];refine cm hmo ?_;simp;refine cm RI ?_;simp[wn,lF];refine⟨λy h=>(cJ _ y h).symm,RH,?_⟩;refine aN Dz H (by simp[aA,he,Sm.cnt,fm,fC,eF,aH,aj,ak,aR,aM,aJ,aP]) (by simp[aA]) rfl ?_;rw[<-hZ];simp[-az,DU,fm,fC,eF,aH,aj,ak,aR,aM,aJ,aP,results14];exact⟨λy h=>(cJ _ y h).symm,RH,[],H⟩
def Ls{c:Nat}(w:Sm)(L:List (aF))(hL:L.length<=1000000)(h:HD c w L.flatten)(hz:(w.aQ L.flatten).2≠0):bN 14 [.obj 7 0,.p (.sl (L.map cK))] ⟨fm 0 8 w,cH 8,19⟩ (.p (.int (w.aQ L.flatten).2)) ⟨zU 0 19 (w.aQ L.flatten).1,cH 19,29⟩:=by
 have hgb:=Fx h;have hge:=Rf h;obtain⟨hs,hbd,hc,hb,hsz,sx,qu,he⟩:=h;have Ox:=EA L O O;generalize hb:L.flatten=b at hz hsz Ox hgb hge⊢;rename_i hb0;rw[hb]at hb0;have hmo:=K8 w.e.sum sx [b] H (by simp;omega);have RI:=EA [w.rest,b] (by simp;omega) H;have hff:[w.rest,b].flatten=w.rest++b:=H;have hf1:[b].flatten=b:=H;rw[hff]at RI;rw[hf1]at hmo;obtain⟨Z,hZ⟩:=lT (w.aQ b);have DV:(w.got b).2≠0:=by
  intro e;unfold Sm.aQ at hz;rw[ai e]at hz;exact hz rfl
 rw[hZ];unfold Sm.aQ at hZ;rw[ah DV]at hZ;have hq:=ahh (w.got b).1 hge hgb.2.1.lM.rm (by have:=hgb.2.2.bl;omega);clear hgb hge hz;unfold Sm.got at hZ DV hq;generalize hB:w.rest++b=B at hZ DV RI hq;have hBl:B.length<=30064:=by rw[<-hB,mo];omega
 generalize hn:B.length/64*64=n at hZ DV hq;have RH:n<=B.length:=O;have Dz:=vr (c0:=c) (w.cnt b) hs hbd (B.take n) (by simp;omega) (by simp;omega);generalize hY:eC (b9 (B.take n)) (w.cnt b)=Y at Dz hZ DV hq;obtain⟨u,e⟩:=Y;simp only at Dz hZ DV hq;have cz:(e !=0)=true:=U DV;have w1:IntKind.i64.wrap (1048576-w.e.size)=1048576-w.e.size:=aG;have w2:IntKind.i64.wrap (w.e.size+(b.length:Int))=w.e.size+b.length:=aG;have c1:¬(1048576-w.e.size<(b.length:Int)):=O;have wn:IntKind.i64.wrap (IntKind.i64.wrap ((B.length:Int)/64)*64)=(n:Int):=by
  have q0:IntKind.i64.wrap ((B.length:Int)/64)=(B.length:Int)/64:=aG;rw[q0,aG];omega
 have lF:List.take n (af B)=af (B.take n):=by simp[af]
 refine aC [_] func14 rfl ?_;simp[fm,fC,eF,aH,aj,ak,aR,aM,aJ,aP,he];refine cm Ox ?_;simp[w1,w2,c1];refine cm hmo ?_;simp;refine cm RI ?_;simp[wn,lF];refine⟨λy h=>(cJ _ y h).symm,RH,?_⟩;refine aN Dz H (by simp[aA,he,Sm.cnt,fm,fC,eF,aH,aj,ak,aR,aM,aJ,aP]) (by simp[aA]) rfl ?_;simp[cz,fm,fC,eF,aH,aj,ak,aR,aM,aJ,aP];refine xQ [0,1,2,3,4,5,6,7,19,20,21,22,23,24,25,26,27,28,29] hq ?_;rw[<-hZ];simp[-az,zU,iT,aH,aj,ak,aR,aM,aJ,aP,results14];exact⟨[(19,30),(20,31),(21,32),(22,33),(23,34),(24,35),(25,36),(26,37),(27,38),(28,39)],H⟩
def rcF{P:Program}{tb:Tb}{kt:AV->Tb->Prop}{gf:FuncId}{ys l:List AV}{ts ts':Tb}{r:AV}(rn:List Nat)(h:dm P gf ys ts r ts')(hk:kt (r.cp (fh rn tb.nx)) (tb.merge (ts.cp (fh rn tb.nx)) (ts'.cp (fh rn tb.nx))))(hs:rn.length=ts.nx/\ts.nx<=ts'.nx/\rn.Nodup/\∀j∈rn,j<tb.nx:=by simp)(hl:toAll l (AV.cp.eu (fh rn tb.nx) ys):=by simp)(hb:aA tb.bx (fD (fh rn tb.nx) ts.bx):=by simp[aA,aH,aj,ak,aR,aM,aJ,aP,fm,fC,eF,zU,iT])(hr:aA tb.rw (jj (fh rn tb.nx) ts.rw):=by simp[aA,ak]):jN P gf [] l tb kt:=aD rn h hs hl hb hr hk
def aoC{P:Program}{tb:Tb}{kt:AV->Tb->Prop}{gf:FuncId}{ys l:List AV}{ts ts':Tb}{r:AV}(h:dm P gf ys ts r ts')(hn:ts.nx=tb.nx)(hk:kt r (tb.merge ts ts'))(hl:toAll l ys:=by simp)(hb:aA tb.bx ts.bx:=by simp[aA,aH,aj,ak,aR,aM,aJ,aP,fm,fC,eF,zU,iT])(hr:aA tb.rw ts.rw:=by simp[aA]):jN P gf [] l tb kt:=aN h hl hb hr hn hk
end Go.Av
namespace Go.aL
open Go.Av
def St.yg(s:St)(e:cS):St×Int:=s.o6 (kL (fL e))
def St.kK(s:St)(e:cS):St×(Int×Int)×Int:=if(s.yg e).2=0 then
 (if((s.yg e).1.FE e).2=0 then((s.yg e).1.BG e,(s.yg e).1.yf e,0)
 else(((s.yg e).1.BG e).back [(s.yg e).1.yf e],(0,0),((s.yg e).1.FE e).2))else((s.yg e).1,(0,0),(s.yg e).2)
def Gh{m:Mp}{k:Nat}(h1:1<=k)(h:(m.F.any λx=>decide (k<=x.2))=true):m.run k<m.F.length:=by
 unfold Mp.run;obtain⟨x,hx,hk⟩:=Kt.1 h;have hk:k<=x.2:=U hk;have key:∀(l:List Ext),x∈l->(l.takeWhile λe=>!decide ((k:Int)<=(e.2:Int))).length<l.length:=by
  intro l hl
  induction l with
  |nil=>simp at hl
  |cons y l ih=>
   rw[uN];split
   .rename_i hy;rcases fF.1 hl with rfl|hl
    .simp at hy;omega
    .have:=ih hl;simp only[cF];omega
   .simp
 exact key _ hx
def uV{e:cS}(h:e.pack.length<=8000):1<=(fL e).length/\(fL e).length<=130:=by
 have b2:(cL (e.pack.length:Int) 2).length=2:=by simp[cL]
 have aeN:=gY (cL e.pack.length 2++e.pack);rw[mo,b2]at aeN;unfold fL;rw[dJ];omega
end Go.aL
namespace Go.Av
open Go.Proofs Go.Proofs.Tryz Go.aL
def Lb{c:Nat}(hc:c<=18000)(s:St)(h:Bd c s)(e:cS)(he:e.Ok)(hpk:e.Eg=(e.pack,0))(hpl:e.pack.length<=8000):bN 147 [.obj 6 0,.p (fK e)] ⟨aH 0 7 s,cH 7,17⟩ (.agg true [.p (dO (s.kK e).2.1),.p (.int (s.kK e).2.2)]) ⟨aH 0 17 (s.kK e).1,cH 17,27⟩:=by
 have RS:=uV hpl;have hmk:=akq (fL e) O O h;have Xv:=ya (p:=kL (fL e)) O h;have Xw:=tG (p:=kL (fL e)) O h;have hpa:=Za e he O;rw[hpk]at hpa;have hfl:[cL e.pack.length 2,e.pack].flatten=cL e.pack.length 2++e.pack:=H;have b2:(cL (e.pack.length:Int) 2).length=2:=by simp[cL]
 have hfr:=Cg [cL e.pack.length 2,e.pack] (by rw[hfl,mo,b2];omega) H;rw[hfl]at hfr;have aeN:=gY (cL e.pack.length 2++e.pack);rw[mo,b2]at aeN;have Dz:=vo (frame (cL e.pack.length 2++e.pack)) O;generalize hZ:s.kK e=Z;unfold St.kK St.yg at hZ;generalize hM1:s.o6 (kL (fL e))=M1 at hZ hmk Xv Xw;obtain⟨s1,e1⟩:=M1;simp only at hZ hmk Xv Xw;unfold St.BG St.FE St.yf at hZ;unfold fL at RS hZ hmk Xw;unfold kL at Xw;generalize frame (cL e.pack.length 2++e.pack)=fr at*;generalize b9 fr=L at*;have hS:=Xv.lM;have hT:=hS.rm.take L.length;have SF:=hS.pn;have hjn:=hS.jn;have Pz:cY s1.jn s1.pn=1+s1.jn+s1.pn*8:=rfl;have qo:=yO s1.jn s1.pn O O;have hn0:=hS.rm.n;have hrun:e1=0->s1.rm.run L.length<s1.rm.F.length:=λe0=>Gh RS.1 (Xw e0);have lF:=λe0=>Ay 5 25 26 27 30 (by constructor<;>omega) s1.rm hS.rm L.length O (hrun e0);have Ub:=λe0=>Ay 5 25 26 27 31 (by constructor<;>omega) s1.rm hS.rm L.length O (hrun e0);generalize hM:s1.rm.take L.length=M at hT hZ lF Ub;obtain⟨m',x,bb⟩:=M;simp only at hT hZ lF Ub;obtain⟨t1,t2,t3,t4,_⟩:=hT;have w3:IntKind.i64.wrap (cY s1.jn s1.pn+x.1)=cY s1.jn s1.pn+x.1:=aG;have jC:=tL s1.D ((c+24)*(c+24)) hS.D (cY s1.jn s1.pn+x.1) O L O (by have:=Uc (t:=c+24) O;omega);have hD2:=(Xv.wr (cY s1.jn s1.pn+x.1) L O).lM;generalize hY:s1.D.write (cY s1.jn s1.pn+x.1) L=Y at jC hZ hD2;obtain⟨D',e'⟩:=Y;simp only at jC hZ hD2;have hbk:=wZ {s1 with rm:=m',D:=D'} t1 [x] H;have h8:IntKind.u8.wrap ((e.pack.length:Int).fdiv (2^min 8 IntKind.i64.bits))=((zS ((e.pack.length:Int)/2^8)).toNat:Int):=by
  have e2:min 8 IntKind.i64.bits=8:=rfl;rw[e2,mP _ (yC (yD O)),oA]
 have h0:=oA (e.pack.length:Int);have XC:cL (e.pack.length:Int) 2=[zS ((e.pack.length:Int)/2^8),zS (e.pack.length:Int)]:=by
  show[zS ((e.pack.length:Int)/2^8),zS ((e.pack.length:Int)/2^0)]=_;simp
 have hf2:cq 178 [.sl [.sl [.sc (.int .u8 ((zS ((e.pack.length:Int)/2^8)).toNat:Int)),.sc (.int .u8 ((zS (e.pack.length:Int)).toNat:Int))],cK e.pack]] (cK fr):=by
  have:=hfr;rw[XC]at this;exact this
 refine zM (rs:=[_,_]) [2] [(10,[(0,.r 1),(4,.r 2),(5,.r 1),(8,.r 2),(9,.w [1,2,3,4]),(11,.r 4),(13,.r 3),(14,.w [1,2,3,4])])] [(1,17),(2,6),(3,19),(4,32)] [(9,(.br 0 (.one 1 (.one 2 (.br 3 (.br 4 (.one 5 (.br 6 (.one 7 (.one 8 (.one 9 (.br 10 (.br 11 (.br 12 .lf .lf) .lf) .lf)))) (.br 10 (.br 6 (.one 7 (.one 8 (.one 9 (.br 11 (.br 12 .lf .lf) .lf)))) .lf) .lf))) (.br 10 (.br 4 (.one 5 (.br 6 (.one 7 (.one 8 (.one 9 (.br 11 (.br 12 .lf .lf) .lf)))) .lf)) .lf) .lf)) (.br 4 (.one 5 (.br 3 (.br 6 (.one 7 (.one 8 (.one 9 (.br 10 (.br 11 (.br 12 .lf .lf) .lf) .lf)))) (.br 10 (.br 6 (.one 7 (.one 8 (.one 9 (.br 11 (.br 12 .lf .lf) .lf)))) .lf) .lf)) (.br 10 (.br 3 (.br 6 (.one 7 (.one 8 (.one 9 (.br 11 (.br 12 .lf .lf) .lf)))) .lf) .lf) .lf))) (.br 10 (.br 3 (.br 4 (.one 5 (.br 6 (.one 7 (.one 8 (.one 9 (.br 11 (.br 12 .lf .lf) .lf)))) .lf)) .lf) (.br 4 (.one 5 (.br 3 (.br 6 (.one 7 (.one 8 (.one 9 (.br 11 (.br 12 .lf .lf) .lf)))) .lf) .lf)) .lf)) .lf))))) (.br 4 (.one 5 (.br 0 (.one 1 (.one 2 (.br 3 (.br 6 (.one 7 (.one 8 (.one 9 (.br 10 (.br 11 (.br 12 .lf .lf) .lf) .lf)))) (.br 10 (.br 6 (.one 7 (.one 8 (.one 9 (.br 11 (.br 12 .lf .lf) .lf)))) .lf) .lf)) (.br 10 (.br 3 (.br 6 (.one 7 (.one 8 (.one 9 (.br 11 (.br 12 .lf .lf) .lf)))) .lf) .lf) .lf)))) (.br 10 (.br 0 (.one 1 (.one 2 (.br 3 (.br 6 (.one 7 (.one 8 (.one 9 (.br 11 (.br 12 .lf .lf) .lf)))) .lf) .lf))) .lf) .lf))) (.br 10 (.br 0 (.one 1 (.one 2 (.br 3 (.br 4 (.one 5 (.br 6 (.one 7 (.one 8 (.one 9 (.br 11 (.br 12 .lf .lf) .lf)))) .lf)) .lf) (.br 4 (.one 5 (.br 3 (.br 6 (.one 7 (.one 8 (.one 9 (.br 11 (.br 12 .lf .lf) .lf)))) .lf) .lf)) .lf)))) (.br 4 (.one 5 (.br 0 (.one 1 (.one 2 (.br 3 (.br 6 (.one 7 (.one 8 (.one 9 (.br 11 (.br 12 .lf .lf) .lf)))) .lf) .lf))) .lf)) .lf)) .lf))))] func147 rfl bp bp (by simp[ntmps147]) rfl ?_;refine iF mixed [(2,.obj 17 0),(3,.p (.ref (fK e))),(4,.obj 18 0)] ⟨(17,⟨32,1,[.obj 6 0]⟩)::(18,⟨157,2,[.p (.int 0),.p (.int 0)]⟩)::aH 0 7 s,cH 7,19⟩ ?_ ?_
 .simp[aH,aj,ak,aR,aM,aJ,aP];exact aB H
 refine iF mixed [(2,.obj 17 0),(3,.p (.ref (fK e))),(4,.obj 18 0),(6,.p (cK e.pack)),(7,.p (.int 0))] ⟨(17,⟨32,1,[.obj 6 0]⟩)::(18,⟨157,2,[.p (.int 0),.p (.int 0)]⟩)::aH 0 7 s,cH 7,19⟩ ?_ ?_
 .simp[aH,aj,ak,aR,aM,aJ,aP];refine cm hpa ?_;simp;exact aB H
 refine iF mixed [(2,.obj 17 0),(3,.p (.ref (fK e))),(4,.obj 18 0),(6,.p (cK e.pack))] ⟨(17,⟨32,1,[.obj 6 0]⟩)::(18,⟨157,2,[.p (.int 0),.p (.int 0)]⟩)::aH 0 7 s,cH 7,19⟩ ?_ ?_
 .simp[aH,aj,ak,aR,aM,aJ,aP];exact aB H
 refine iF mixed [(2,.obj 17 0),(3,.p (.ref (fK e))),(4,.obj 18 0),(8,.obj 19 0)] ⟨(19,⟨93,1,[.p (.sl (L.map cK))]⟩)::(17,⟨32,1,[.obj 6 0]⟩)::(18,⟨157,2,[.p (.int 0),.p (.int 0)]⟩)::aH 0 7 s,cH 7,20⟩ ?_ ?_
 .simp[h8,h0,aH,aj,ak,aR,aM,aJ,aP];refine cm hf2 ?_;simp;refine cm Dz ?_;simp;exact aB H
 refine iF mixed [(2,.obj 17 0),(3,.p (.ref (fK e))),(4,.obj 18 0),(8,.obj 19 0),(9,.mB (.func 230) [.obj 17 0,.obj 19 0])] ⟨(19,⟨93,1,[.p (.sl (L.map cK))]⟩)::(17,⟨32,1,[.obj 6 0]⟩)::(18,⟨157,2,[.p (.int 0),.p (.int 0)]⟩)::aH 0 7 s,cH 7,20⟩ ?_ ?_
 .simp[aH,aj,ak,aR,aM,aJ,aP];exact aB H
 refine oU mixed (λ_:Unit=>e1=0) (λ_=>[(2,.obj 17 0),(4,.obj 18 0),(8,.obj 19 0)]) (λ_=>⟨(19,⟨93,1,[.p (.sl (L.map cK))]⟩)::(17,⟨32,1,[.obj 6 0]⟩)::(18,⟨157,2,[.p (.int 0),.p (.int 0)]⟩)::aH 0 20 s1,cH 20,30⟩) ?_ (λ_ ce=>?_)
 .by_cases ce:e1=0
  .subst ce;simp[aH,aj,ak,aR,aM,aJ,aP];refine pR [0,1,2,3,4,5,6,7,8,9,10,11,12,13,14,15,16,17,19] hmk ?_;simp[aH,aj,ak,aR,aM,aJ,aP];exact aB H
  .have Ya:(e1 !=0)=true:=U ce;rw[ah ce]at hZ;rw[<-hZ];simp[aH,aj,ak,aR,aM,aJ,aP];refine pR [0,1,2,3,4,5,6,7,8,9,10,11,12,13,14,15,16,17,19] hmk ?_;simp[-az,Ya,aH,aj,ak,aR,aM,aJ,aP,results147];exact⟨[(17,20),(18,21),(19,22),(20,23),(21,24),(22,25),(23,26),(24,27),(25,28),(26,29)],H⟩
 subst ce;have lF:=lF rfl;have Ub:=Ub rfl;rw[ai rfl]at hZ;refine oU mixed (λ_:Unit=>True) (λ_=>[(2,.obj 17 0),(4,.obj 18 0),(8,.obj 19 0),(10,.obj 32 0)]) (λ_=>⟨(32,⟨157,2,[.p (.int x.1),.p (.int x.2)]⟩)::(19,⟨93,1,[.p (.sl (L.map cK))]⟩)::(17,⟨32,1,[.obj 6 0]⟩)::(18,⟨157,2,[.p (.int 0),.p (.int 0)]⟩)::[(0,aj 0 20 s1.D),(1,ak s1.D.kept),(2,ak s1.D.now),(3,iB 0 21 s1.J),(4,aR 22 s1.sl),(5,iy s1.rm.n 30 31 27 m'.F m'.R m'.W),(6,aM 0 20 s1),(22,cI s1.sl.F),(23,cI s1.sl.R),(24,cI s1.sl.W),(30,cI m'.F),(31,cI m'.R),(27,cI m'.W),(28,aJ s1.ix),(29,aP s1.dR)],cH 20,33⟩) ?_ (λ_ _=>?_)
 .simp[aH,aj,ak,aR,aM,aJ,aP]
  repeat' refine And.intro ?_ ?_
  all_goals first
   |(refine aN lF H (by simp[aA]) (by simp[aA]) rfl ?_;simp;exact aB H)
   |(refine aN Ub H (by simp[aA]) (by simp[aA]) rfl ?_;simp;exact aE [(30,31),(31,32),(32,30)] H)
 refine g_ mixed ?_;by_cases cw:e'=0
 .subst cw;rw[ai rfl]at hZ;simp[aH,aj,ak,aR,aM,aJ,aP];refine jf [0] qo ?_;simp[w3];refine wu [0,1,2,20] jC ?_;rw[<-hZ];simp[-az,ak,t2,results147];exact⟨[(17,33),(18,21),(19,22),(20,23),(21,24),(22,30),(23,31),(24,27),(25,28),(26,29)],H⟩
 .have cw':(e' !=0)=true:=U cw;rw[ah cw]at hZ;generalize hB:St.back {s1 with rm:=m',D:=D'} [x]=B at hZ hbk;simp[aH,aj,ak,aR,aM,aJ,aP];refine jf [0] qo ?_;simp[w3];refine wu [0,1,2,20] jC ?_;simp[ak,cw'];refine aD [0,1,2,3,4,5,6,33,21,22,23,24,30,31,27,28,29] hbk H H (by simp[aA,aH,aj,ak,aR,aM,aJ,aP,t2]) (by simp[aA]) ?_;rw[<-hZ];simp[-az,aH,aj,ak,aR,aM,aJ,aP,results147];exact⟨[(17,34),(18,35),(19,36),(20,37),(21,38),(22,39),(23,40),(24,41),(25,42),(26,43)],H⟩
def aeW(t t2:Nat)(s:St)(h:gR t s)(count:Int)(key:aF)(k:Kn)(R:Go.cD.jX Cs)(htu:bN 149 [.obj 20 0,.obj 21 0,.obj 22 0] ⟨iY.B 0 8 ⟨s,[],[]⟩++[(20,eJ s.root),(21,DW key),(22,Uy k)],nJ 8,23⟩ (.p (.int R.e)) ⟨iY.B 0 23 R.s++[(20,eJ R.root),(21,DW key),(22,Uy k)],nJ 23,35⟩)(h2:lN t2 R.s)(ht2:t2<=30000):bN 148 [.obj 6 0,.p (.int count),.mB (.func 149) [.obj 17 0,.obj 18 0]] ⟨(17,DW key)::(18,Uy k)::aH 0 7 s,cH 7,19⟩ (.agg true [.p (.bool (pM R count).2.1),.p (.int (pM R count).2.2)]) ⟨(17,DW key)::(18,Uy k)::aH 0 19 (pM R count).1,cH 19,29⟩:=by
 have KJ:=LN s.root;generalize hZ:pM R count=Z;unfold pM at hZ;have hro:=N9 R.s R.root;have Cb:=EM t2 R.s.s h2.s ht2 R.root count;have oO:(R.s.s.commit R.root count).1.sl=R.s.s.sl:=rfl;have DC:=h2.saved;have xS:=h2.old;have C2:=h2.s.sl;generalize hC:R.s.s.commit R.root count=C at hZ Cb oO;obtain⟨u,b,e⟩:=C;simp only at hZ Cb oO;have hgi:=tY u (by rw[oO];exact C2) R.s.old O;have hgs:=tY u (by rw[oO];exact C2) R.s.saved O;have hgr:=tY R.s.s C2 R.s.saved O;have hcu:=(jL (m:=u.sl) (by rw[oO];exact C2) R.s.saved).1;have Hq:=(jL C2 R.s.saved).1;have RT:=lX 4 47 48 49 55 (cn u.sl R.s.saved).n (by constructor<;>omega) hcu.n (cn u.sl R.s.saved).F (cn u.sl R.s.saved).R (cn u.sl R.s.saved).W hcu.F hcu.W hcu.fw;have hm2:=lX 4 37 38 39 45 (cn R.s.s.sl R.s.saved).n (by constructor<;>omega) Hq.n (cn R.s.s.sl R.s.saved).F (cn R.s.s.sl R.s.saved).R (cn R.s.s.sl R.s.saved).W Hq.F Hq.W Hq.fw;refine kQ (rs:=[_,_]) [14] [] [] func148 rfl bp bp (by simp[ntmps148]) rfl ?_;refine iF mixed [(0,.obj 6 0),(1,.p (.int count)),(2,.mB (.func 149) [.obj 17 0,.obj 18 0])] ⟨(17,DW key)::(18,Uy k)::aH 0 7 s,cH 7,19⟩ ?_ ?_
 .simp[aH,aj,ak,aR,aM,aJ,aP];exact aB H
 refine iF mixed [(0,.obj 6 0),(1,.p (.int count)),(2,.mB (.func 149) [.obj 17 0,.obj 18 0]),(8,.obj 19 0)] ⟨(19,⟨278,3,[.obj 6 0,.p .nil,.p .nil]⟩)::(17,DW key)::(18,Uy k)::aH 0 7 s,cH 7,20⟩ ?_ ?_
 .simp[aH,aj,ak,aR,aM,aJ,aP];exact aB H
 refine qP (j9 19 1 3 1 ⟨278,3,[.obj 6 0,.p .nil,.p .nil]⟩ [] rfl (.inr ⟨rfl,rfl⟩)) ?_;refine qP (j9 19 2 3 1 ⟨278,3,[.obj 6 0,.own 20 [],.p .nil]⟩ [] rfl (.inr ⟨rfl,rfl⟩)) ?_;refine g_ mixed ?_;by_cases ce:R.e=0
 .rw[ai ce]at hZ;rw[ce]at htu;cases b with
  |true=>
   simp only[cr]at hZ;simp[aH,aj,ak,aR,aM,aJ,aP,Tb.aY,Tb.cC,del];refine jf [19] KJ ?_;simp;refine bK [0,1,2,3,4,5,6,19,7,8,9,10,11,12,13,14,15,16,20,21,22,17,18] htu H H (by simp[aA,iY,nj,pJ,aH,aj,ak,aR,aM,aJ,aP]) (by simp[aA]) ?_;simp[iY,nj,pJ,aH,aj,ak,aR,aM,aJ,aP];refine aD [0,1,2,3,4,5,6,19,23,24,25,26,27,28,29,30,31,32,33,34,22] hro H H (by simp[aA,iY,nj,pJ,aH,aj,ak,aR,aM,aJ,aP]) (by simp[aA]) ?_;simp[iY,nj,pJ,aH,aj,ak,aR,aM,aJ,aP];refine pR [0,1,2,3,4,5,6,23,24,25,26,27,28,29,30,31,32] Cb ?_;simp[aH,aj,ak,aR,aM,aJ,aP];refine pR [0,1,2,3,4,5,6,35,36,37,38,39,40,41,42,43,44] hgi ?_;rw[<-hZ];simp[-az,St.fH,aH,aj,ak,aR,aM,aJ,aP,results148];exact⟨[(19,45),(20,46),(21,47),(22,48),(23,49),(24,50),(25,51),(26,52),(27,53),(28,54)],by simp[Mp.commit]⟩
  |false=>
   simp only[dZ,dc]at hZ;cases cs:u.sure with
   |true=>
    simp[aH,aj,ak,aR,aM,aJ,aP,Tb.aY,Tb.cC,del];refine jf [19] KJ ?_;simp;refine bK [0,1,2,3,4,5,6,19,7,8,9,10,11,12,13,14,15,16,20,21,22,17,18] htu H H (by simp[aA,iY,nj,pJ,aH,aj,ak,aR,aM,aJ,aP]) (by simp[aA]) ?_;simp[iY,nj,pJ,aH,aj,ak,aR,aM,aJ,aP];refine aD [0,1,2,3,4,5,6,19,23,24,25,26,27,28,29,30,31,32,33,34,22] hro H H (by simp[aA,iY,nj,pJ,aH,aj,ak,aR,aM,aJ,aP]) (by simp[aA]) ?_;simp[iY,nj,pJ,aH,aj,ak,aR,aM,aJ,aP];refine pR [0,1,2,3,4,5,6,23,24,25,26,27,28,29,30,31,32] Cb ?_;simp[aH,aj,ak,aR,aM,aJ,aP];refine pR [0,1,2,3,4,5,6,35,36,37,38,39,40,41,42,43,44] hgs ?_;simp[cs,aH,aj,ak,aR,aM,aJ,aP];refine o7 RT rfl ?_;rw[<-hZ];simp[-az,cs,St.fH,St.uv,Mp.commit,aH,aj,ak,aR,aM,aJ,aP,results148];exact⟨[(19,45),(20,46),(21,55),(22,56),(23,57),(24,50),(25,51),(26,52),(27,53),(28,54)],by simp[Mp.commit]⟩
   |false=>
    simp[aH,aj,ak,aR,aM,aJ,aP,Tb.aY,Tb.cC,del];refine jf [19] KJ ?_;simp;refine bK [0,1,2,3,4,5,6,19,7,8,9,10,11,12,13,14,15,16,20,21,22,17,18] htu H H (by simp[aA,iY,nj,pJ,aH,aj,ak,aR,aM,aJ,aP]) (by simp[aA]) ?_;simp[iY,nj,pJ,aH,aj,ak,aR,aM,aJ,aP];refine aD [0,1,2,3,4,5,6,19,23,24,25,26,27,28,29,30,31,32,33,34,22] hro H H (by simp[aA,iY,nj,pJ,aH,aj,ak,aR,aM,aJ,aP]) (by simp[aA]) ?_;simp[iY,nj,pJ,aH,aj,ak,aR,aM,aJ,aP];refine pR [0,1,2,3,4,5,6,23,24,25,26,27,28,29,30,31,32] Cb ?_;simp[aH,aj,ak,aR,aM,aJ,aP];refine pR [0,1,2,3,4,5,6,35,36,37,38,39,40,41,42,43,44] hgs ?_;rw[<-hZ];simp[-az,cs,St.fH,St.uv,aH,aj,ak,aR,aM,aJ,aP,results148];exact⟨[(19,45),(20,46),(21,47),(22,48),(23,49),(24,50),(25,51),(26,52),(27,53),(28,54)],by simp[Mp.commit]⟩
 .rw[ah ce]at hZ;have Ya:(R.e==0)=false:=U ce;cases cs:R.s.s.sure with
  |true=>
   simp[aH,aj,ak,aR,aM,aJ,aP,Tb.aY,Tb.cC,del];refine jf [19] KJ ?_;simp;refine bK [0,1,2,3,4,5,6,19,7,8,9,10,11,12,13,14,15,16,20,21,22,17,18] htu H H (by simp[aA,iY,nj,pJ,aH,aj,ak,aR,aM,aJ,aP]) (by simp[aA]) ?_;simp[Ya,iY,nj,pJ,aH,aj,ak,aR,aM,aJ,aP];refine pR [0,1,2,3,4,5,6,23,24,25,26,27,28,29,30,31,32] hgr ?_;simp[cs,aH,aj,ak,aR,aM,aJ,aP];refine o7 hm2 rfl ?_;rw[<-hZ];simp[-az,cs,St.fH,St.uv,Mp.commit,aH,aj,ak,aR,aM,aJ,aP,results148];exact⟨[(19,35),(20,36),(21,45),(22,46),(23,47),(24,40),(25,41),(26,42),(27,43),(28,44)],by simp[Mp.commit]⟩
  |false=>
   simp[aH,aj,ak,aR,aM,aJ,aP,Tb.aY,Tb.cC,del];refine jf [19] KJ ?_;simp;refine bK [0,1,2,3,4,5,6,19,7,8,9,10,11,12,13,14,15,16,20,21,22,17,18] htu H H (by simp[aA,iY,nj,pJ,aH,aj,ak,aR,aM,aJ,aP]) (by simp[aA]) ?_;simp[Ya,iY,nj,pJ,aH,aj,ak,aR,aM,aJ,aP];refine pR [0,1,2,3,4,5,6,23,24,25,26,27,28,29,30,31,32] hgr ?_;rw[<-hZ];simp[-az,cs,St.fH,St.uv,aH,aj,ak,aR,aM,aJ,aP,results148];exact⟨[(19,35),(20,36),(21,37),(22,38),(23,39),(24,40),(25,41),(26,42),(27,43),(28,44)],by simp[Mp.commit]⟩
end Go.Av
namespace Go.aL
open Go.Av
def cS.kn(e:cS)(x:Int×Int):Kn:=⟨e.uri++10::e.var,e.order,x.1*256+x.2,e.body⟩
def St.rT(u:St)(kind:Int)(k:Kn):St:=if qn u.ix k.key=true then
 (if kind=2 then{u with rm:=u.rm.gG [(u.ix.getD (gO u.ix k.key) ux).gP],ix:=u.ix.set (gO u.ix k.key) k}
 else{u with rm:=u.rm.gG (u.ix.getD (gO u.ix k.key) ux).exts,ix:=u.ix.set (gO u.ix k.key) k})else{u with ix:=u.ix.take (gO u.ix k.key)++k::u.ix.drop (gO u.ix k.key)}
def St.BB(s:St)(k:Kn):St×Bool×Int:=pM (bM.jm ⟨s,[],[]⟩ s.root k.key k.place) (if qn s.ix k.key=true then s.ix.length else s.ix.length+1)
def St.BA(s:St)(kind:Int)(x:Int×Int)(k:Kn):St×Bool×Int:=if kind=2/\qn s.ix k.key=false then(s.back [x],false,20)else if(s.BB k).2.1=true then(((s.BB k).1.rT kind k).wrote kind (s.BB k).2.2 k.key,true,(s.BB k).2.2)else((s.BB k).1.back [x],false,(s.BB k).2.2)
def St.BD(s:St)(kind:Int)(e:cS):St×Bool×Int:=if(s.kK e).2.2=0 then(s.kK e).1.BA kind (s.kK e).2.1 (e.kn (s.kK e).2.1)else((s.kK e).1,false,(s.kK e).2.2)
def St.sA(s:St)(kind:Int)(e:cS):St×Bool×Int:=if(s.o6 dV).2=0 then(s.o6 dV).1.BD kind e else((s.o6 dV).1,false,(s.o6 dV).2)
structure RL(e:cS):Prop where
 ok:e.Ok
 pk:e.Eg=(e.pack,0)
 pl:e.pack.length<=8000
 kl:e.uri.length+e.var.length+1<=1000
 ord:0<=e.order/\e.order<=1152921504606846976
 body:qG e.body
def gR.back{t:Nat}{s:St}(h:gR t s)(es:eL):gR t (s.back es):=by
 have hg:=h.rm.gG es;unfold St.back;split
 .exact h
 .refine h.room (m:=if s.sure=true then(s.rm.gG es).commit else s.rm.gG es) ?_ ?_
  .split
   .exact hg.1.commit
   .exact hg.1
  .split<;>exact hg.2
def xb(s:St)(es:eL):(s.back es).ix=s.ix/\(s.back es).sure=s.sure/\(s.back es).dR=s.dR/\(s.back es).ord=s.ord/\(s.back es).D=s.D/\(s.back es).J=s.J/\(s.back es).jn=s.jn/\(s.back es).pn=s.pn:=by
 unfold St.back;split<;>exact⟨rfl,rfl,rfl,rfl,rfl,rfl,rfl,rfl⟩
def Bd.back{c:Nat}{s:St}(h:Bd c s)(es:eL):Bd c (s.back es):=by
 obtain⟨t,h1,h2,h3⟩:=h;refine⟨t,h1.back es,h2,?_⟩;rw[(xb s es).1,(xb s es).2.1];exact h3
def Nx{l:List Kn}{i:Nat}(hi:i<l.length):l.getD i ux=l[i]:=by simp[List.getD,hi]
def Zv{c:Nat}{s1:St}(hB:Bd c s1){e:cS}(hpl:e.pack.length<=8000)(hy:kL (fL e) s1=true):Bd (c+1) (s1.BG e)/\0<=(s1.yf e).1/\(s1.yf e).1+(s1.yf e).2<=(s1.BG e).rm.n/\(s1.yf e).2=(fL e).length:=by
 have hn:=uV hpl;unfold kL at hy;unfold St.BG St.FE St.yf;generalize fL e=L at*;have qo:=hB.lM.rm;have hT:=qo.take L.length;have hrun:=Gh hn.1 hy;have Bx:(s1.rm.take L.length).2.2=true:=by unfold Mp.take;rw[ai ⟨O,hrun⟩]
 obtain⟨q1,q2,q3⟩:=hT.2.2.2.2 Bx;have hw:=(hB.room hT.1 hT.2.1).wr (cY s1.jn s1.pn+(s1.rm.take L.length).2.1.1) L O;refine⟨hw,hT.2.2.1,?_,q3⟩;rw[q3];show _<=((s1.rm.take L.length).1.n:Int);rw[hT.2.1];exact q2
def FA{c:Nat}(hc:c<=18000){s:St}(h:Bd c s){e:cS}(hpl:e.pack.length<=8000):((s.kK e).2.2=0->Bd (c+1) (s.kK e).1/\0<=(s.kK e).2.1.1/\(s.kK e).2.1.1+(s.kK e).2.1.2<=(s.kK e).1.rm.n/\(s.kK e).2.1.2=(fL e).length)/\Bd (c+25) (s.kK e).1:=by
 unfold St.kK St.yg;by_cases c1:(s.o6 (kL (fL e))).2=0
 .rw[ai c1];have hd:=Zv (tH O h c1) hpl (tG O h c1);by_cases c2:((s.o6 (kL (fL e))).1.FE e).2=0
  .rw[ai c2];exact⟨λ_=>hd,hd.1.up O⟩
  .rw[ah c2];refine⟨λe0=>absurd e0 c2,?_⟩;have hb:=hd.1.back [(s.o6 (kL (fL e))).1.yf e];exact hb.up O
 .rw[ah c1];exact⟨λe0=>absurd e0 c1,(ya O h).up O⟩
def S2{e:cS}(h:RL e){x:Int×Int}(h1:0<=x.1/\x.1<=65536)(h2:0<=x.2/\x.2<=255):KH (e.kn x):=by
 refine⟨?_,h.ord,?_,h.body.bl,h.body.bo⟩
 .have:=h.kl;show(e.uri++10::e.var).length<=1000;simp;omega
 .show 0<=x.1*256+x.2/\x.1*256+x.2<=1000000000;omega
def gR.index{t:Nat}{s:St}(h:gR t s){l:List Kn}(h1:l.length<=1000000)(h2:∀k∈l,KH k)(h3:Ke l):gR t {s with ix:=l}:=⟨h.D,h.J,h.jn,h.pn,h.sz,h.sl,h.rm,h.MS,h.OX,h.dR,h1,h2,h3,h.root,h.ord⟩
def gR.rT{t:Nat}{u:St}(h:gR t u)(hl:u.ix.length<=900000)(kind:Int){k:Kn}(hk:KH k):gR t (u.rT kind k)/\(u.rT kind k).ix.length<=u.ix.length+1:=by
 have iG:∀k'∈u.ix.set (gO u.ix k.key) k,KH k':=λk' hk'=>by
  rcases F5 hk' with c|rfl
  .exact h.ix _ c
  .exact hk
 have hroom:∀es,gR t {u with rm:=u.rm.gG es}:=λes=>h.room (h.rm.gG es).1 (h.rm.gG es).2;unfold St.rT;by_cases c1:qn u.ix k.key=true
 .rw[ai c1];split
  .exact⟨(hroom _).index (by simp;omega) iG (Ny h.RJ k c1),H⟩
  .exact⟨(hroom _).index (by simp;omega) iG (Ny h.RJ k c1),H⟩
 .rw[ah c1];have hle:(u.ix.take (gO u.ix k.key)++k::u.ix.drop (gO u.ix k.key)).length<=u.ix.length+1:=by simp;omega
  refine⟨h.index O (λk' hk'=>?_) (Zw h.RJ k (U c1)),hle⟩;rcases lD.1 hk' with hk'|hk'
  .exact h.ix _ (oa hk')
  .rcases fF.1 hk' with rfl|hk'
   .exact hk
   .exact h.ix _ (fq hk')
def KI(s:St)(k:Kn):(s.BB k).1.ix=s.ix:=(Si _ _).trans (Ko s s.root k.key k.place).1
def Fz{t:Nat}{s:St}(h:gR t s)(h2:200<=t/\t<=20000)(k:Kn):gR (t+16) (s.BB k).1:=Zx h h2 k.key k.place _
def Zy{c:Nat}(hc:c<=18000){s:St}(h:Bd c s)(kind:Int)(x:Int×Int){k:Kn}(hk:KH k):Bd (c+100) (s.BA kind x k).1:=by
 unfold St.BA;split
 .show Bd (c+100) (s.back [x]);exact(h.back _).up O
 .obtain⟨t,h1,h2,h3⟩:=h;have hT:=Fz h1 ⟨h2,O⟩ k;have qz:=KI s k;split
  .have hs:=hT.rT (by rw[qz];omega) kind hk;rw[qz]at hs;show Bd (c+100) (((s.BB k).1.rT kind k).wrote kind (s.BB k).2.2 k.key);refine⟨t+24,hs.1.wrote _ _ _,O,?_⟩;rw[Is];have:=hs.2;split<;>omega
  .show Bd (c+100) ((s.BB k).1.back [x]);refine⟨t+16,hT.back _,O,?_⟩;rw[(xb _ _).1,qz];split<;>omega
def Zz{c:Nat}(hc:c<=17000){s:St}(h:Bd c s)(kind:Int){e:cS}(he:RL e):Bd (c+101) (s.BD kind e).1:=by
 have hn:=uV he.pl;obtain⟨h1,h2⟩:=FA O h (e:=e) he.pl;unfold St.BD;split
 .rename_i c1;obtain⟨g1,g2,g3,g4⟩:=h1 c1;have:=g1.lM.rm.n;exact(Zy O g1 kind _ (S2 he O O)).up O
 .exact h2.up O
def MT{c:Nat}(hc:c<=17000){s:St}(h:Bd c s)(kind:Int){e:cS}(he:RL e):Bd (c+101) (s.sA kind e).1:=by
 unfold St.sA;split
 .rename_i c1;exact Zz hc (tH O h c1) kind he
 .exact(ya O h).up O
end Go.aL
namespace Go.Av
open Go.Proofs Go.Proofs.Tryz Go.aL
theorem UA:∀(l:List Kn) (i:Nat),(nU l).take (i*4)=nU (l.take i)
 |[],i=>by simp[nU]
 |x::l,0=>by simp[nU]
 |x::l,i+1=>by
  rw[iR,show(i+1)*4=i*4+1+1+1+1 by omega,jH,jH,jH,jH,UA l i,jH,iR]
theorem UB:∀(l:List Kn) (i:Nat),(nU l).drop (i*4)=nU (l.drop i)
 |[],i=>by simp[nU]
 |x::l,0=>H
 |x::l,i+1=>by
  rw[iR,show(i+1)*4=i*4+1+1+1+1 by omega,gJ,gJ,gJ,gJ,UB l i,gJ]
def ZA(l:List Kn)(i:Nat)(k:Kn):(nU l).take (i*4)++[PC.str k.key,.int k.order,.int k.place,.sl (k.body.map dO)]++(nU l).drop (i*4)=nU (l.take i++k::l.drop i):=by
 rw[UA,UB,Gc,iR];simp
def ZB{l:List Kn}{i:Nat}(hi:i<l.length)(k:Kn):(nU l).take (i*4)++([PC.str k.key,.int k.order,.int k.place,.sl (k.body.map dO)]++(nU l).drop (i*4+4))=nU (l.set i k):=by
 rw[UA,show i*4+4=(i+1)*4 by omega,UB,BX,ai hi,Gc,iR];rfl
def aeV{c:Nat}(hc:c<=16000){s:St}(h:Bd c s)(kind:Int){e:cS}(he:RL e):bN 60 [.obj 6 0,.p (.int kind),.p (fK e)] ⟨aH 0 7 s,cH 7,17⟩ (.agg true [.p (.bool (s.sA kind e).2.1),.p (.int (s.sA kind e).2.2)]) ⟨aH 0 17 (s.sA kind e).1,cH 17,27⟩:=by
 have ye:=he.kl;have hK:=HY e.uri e.var O O;have hsp:=O2 O h;generalize hZ:s.sA kind e=Z;unfold St.sA at hZ;have hB:=λc1=>tH (p:=dV) O h c1;generalize hM0:s.o6 dV=M0 at hsp hZ hB;clear hM0;obtain⟨s0,e0⟩:=M0;simp only at hsp hZ hB;refine aq [_,_] [] [(20,[(4,.r 1),(6,.r 2),(8,.w [1,2]),(11,.s 1 [])]),(22,[(3,.r 1),(7,.r 1),(10,.r 3),(13,.w [1,3])]),(23,[(3,.r 1),(5,.r 2),(7,.s 3 [])]),(25,[(3,.r 1),(7,.r 1),(10,.r 3),(12,.w [1,3])]),(26,[(3,.r 1),(5,.r 2),(7,.s 3 [])])] [(1,6),(2,39),(3,48)] func60 rfl ?_;simp[aH,aj,ak,aR,aM,aJ,aP];refine cm hK ?_;simp;by_cases c1:e0=0
 rotate_left
 .have jR:(e0 !=0)=true:=U c1;rw[ah c1]at hZ;rw[<-hZ];refine pR [0,1,2,3,4,5,6,7,8,9,10,11,12,13,14,15,16] hsp ?_;simp[-az,jR,aH,aj,ak,aR,aM,aJ,aP,results60];exact⟨[(17,18),(18,19),(19,20),(20,21),(21,22),(22,23),(23,24),(24,25),(25,26),(26,27)],H⟩
 subst c1;rw[ai rfl]at hZ;have hB:=hB rfl;have FG:=Lb O s0 hB e he.ok he.pk he.pl;have hR:=FA O hB (e:=e) he.pl;have hn:=uV he.pl;unfold St.BD at hZ;generalize hY:s0.kK e=Y at FG hR hZ;clear hY;obtain⟨s1,x,e2⟩:=Y;simp only at FG hR hZ;refine pR [0,1,2,3,4,5,6,7,8,9,10,11,12,13,14,15,16] hsp ?_;simp[aH,aj,ak,aR,aM,aJ,aP];by_cases c2:e2=0
 rotate_left
 .have eY:(e2 !=0)=true:=U c2;rw[ah c2]at hZ;rw[<-hZ];refine pR [0,1,2,3,4,5,6,18,19,20,21,22,23,24,25,26,27] FG ?_;simp[-az,eY,aH,aj,ak,aR,aM,aJ,aP,results60];exact⟨[(17,28),(18,29),(19,30),(20,31),(21,32),(22,33),(23,34),(24,35),(25,36),(26,37)],H⟩
 subst c2;rw[ai rfl]at hZ;obtain⟨g1,g2,g3,g4⟩:=hR.1 rfl;have hrn:=g1.lM.rm.n;have hx:(0<=x.1/\x.1<=65536)/\0<=x.2/\x.2<=255:=O;have hkk:=S2 he hx.1 hx.2;have aq9:200<=c:=by obtain⟨t,_,h2,h3⟩:=h;omega
 have hS:=g1.lM;have hil:s1.ix.length<=900000:=by obtain⟨t,_,h2,h3⟩:=g1;omega
 have qz:=KI s1 (e.kn x);have hT:=Fz hS ⟨O,O⟩ (e.kn x);have hkey:=hkk.key;have htu:=Uz (c+1) ⟨s1,[],[]⟩ ⟨hS,H,H,H,H⟩ O s1.root hS.root (e.kn x).key (e.kn x) O;have PL:bN 148 [.obj 6 0,.p (.int (if qn s1.ix (e.kn x).key=true then s1.ix.length else s1.ix.length+1)),.mB (.func 149) [.obj 17 0,.obj 18 0]] ⟨(17,DW (e.kn x).key)::(18,Uy (e.kn x))::aH 0 7 s1,cH 7,19⟩ (.agg true [.p (.bool (s1.BB (e.kn x)).2.1),.p (.int (s1.BB (e.kn x)).2.2)]) ⟨(17,DW (e.kn x).key)::(18,Uy (e.kn x))::aH 0 19 (s1.BB (e.kn x)).1,cH 19,29⟩:=aeW (c+1) (c+1+8) s1 hS _ (e.kn x).key (e.kn x) _ htu ((UC hS s1.root (e.kn x).key (e.kn x).place).cok hS (aX _) O) O;have ha:=TX s1 O (e.kn x).key;have hle:=(Gq hS.RJ (e.kn x).key).1;have jC:=λkd cc=>Iu _ _ (hT.rT (by rw[qz];exact hil) kind hkk).1 O kd cc (e.kn x).key O;have PN:=hT.rm;have hKO:=hS.ix;clear htu hS hT hR hB hkk;unfold St.BA at hZ;generalize hTe:s1.BB (e.kn x)=T at PL jC hZ PN qz;clear hTe;obtain⟨u,b,cc⟩:=T;unfold cS.kn at*;simp only at*;have w1:IntKind.i64.wrap (x.1*256)=x.1*256:=aG;have w2:IntKind.i64.wrap (x.1*256+x.2)=x.1*256+x.2:=aG;have w3:IntKind.i64.wrap ((s1.ix.length:Int)+1)=(s1.ix.length:Int)+1:=aG;have w4:IntKind.i64.wrap ((s1.ix.length:Int)+1-1)=(s1.ix.length:Int):=by rw[aG];omega
 have w4':IntKind.i64.wrap (s1.ix.length:Int)=(s1.ix.length:Int):=aG;refine pR [0,1,2,3,4,5,6,18,19,20,21,22,23,24,25,26,27] FG ?_;simp[aH,aj,ak,aR,aM,aJ,aP,w1,w2];by_cases c3:kind=2/\qn s1.ix (e.uri++10::e.var)=false
 .rw[ai c3]at hZ;rw[<-hZ];obtain⟨c3,c4⟩:=c3;have hbk:=wZ s1 g1.lM.rm [x] H;rw[c4]at ha;refine xQ [0,1,2,3,4,5,6,28,29,30,31,32,33,34,35,36,37] ha ?_;simp[aM,aJ,c3];refine pR [0,1,2,3,4,5,6,28,29,30,31,32,33,34,35,36,37] hbk ?_;simp[-az,aH,aj,ak,aR,aM,aJ,aP,results60];exact⟨[(17,40),(18,41),(19,42),(20,43),(21,44),(22,45),(23,46),(24,47),(25,48),(26,49)],H⟩
 rw[ah c3]at hZ;have c4:(qn s1.ix (e.uri++10::e.var)=false/\(kind==2)=false)\/(qn s1.ix (e.uri++10::e.var)=true/\(kind==2)=true)\/(qn s1.ix (e.uri++10::e.var)=true/\(kind==2)=false):=by
  cases eM:qn s1.ix (e.uri++10::e.var)
  .exact .inl ⟨rfl,by simpa using λq=>c3 ⟨q,eM⟩⟩
  .by_cases q:kind=2
   .exact .inr (.inl ⟨rfl,U q⟩)
   .exact .inr (.inr ⟨rfl,U q⟩)
 clear c3;rcases c4 with⟨eM,c2⟩|⟨eM,c2⟩|⟨eM,c2⟩
 all_goals
  rw[eM]at ha PL
  first|rw[ai rfl]at PL|rw[ah H]at PL
  refine xQ [0,1,2,3,4,5,6,28,29,30,31,32,33,34,35,36,37] ha ?_;simp[aM,aJ,w3,w4,w4',c2];cases b
  case false=>
   rw[ah H]at hZ;rw[<-hZ];have hbk:=wZ u PN [x] H;refine pR [0,1,2,3,4,5,6,28,29,30,31,32,33,34,35,36,37,17,39] PL ?_;simp[aH,aj,ak,aR,aM,aJ,aP];refine pR [0,1,2,3,4,5,6,40,41,42,43,44,45,46,47,48,49] hbk ?_;simp[-az,aH,aj,ak,aR,aM,aJ,aP,results60];exact⟨[(17,50),(18,51),(19,52),(20,53),(21,54),(22,55),(23,56),(24,57),(25,58),(26,59)],H⟩
  rw[ai rfl]at hZ;have jC:=jC kind cc;unfold St.rT at jC hZ;simp only at jC hZ;rw[qz]at jC hZ
 .rw[ah (by rw[eM];simp)]at jC hZ;have hin:=PO 1 0 O (nU s1.ix) s1.ix.length (gO s1.ix (e.uri++10::e.var)) ⟨e.uri++10::e.var,e.order,x.1*256+x.2,e.body⟩ H hle O;rw[ZA]at hin;have Ft:(s1.ix.take (gO s1.ix (e.uri++10::e.var))++(⟨e.uri++10::e.var,e.order,x.1*256+x.2,e.body⟩:Kn)::s1.ix.drop (gO s1.ix (e.uri++10::e.var))).length=s1.ix.length+1:=by simp;omega
  generalize gO s1.ix (e.uri++10::e.var)=i at*;generalize s1.ix.take i++(⟨e.uri++10::e.var,e.order,x.1*256+x.2,e.body⟩:Kn)::s1.ix.drop i=L2 at*;generalize hV:St.wrote {u with ix:=L2} kind cc (e.uri++10::e.var)=V at jC hZ;refine pR [0,1,2,3,4,5,6,28,29,30,31,32,33,34,35,36,37,17,39] PL ?_;simp[aH,aj,ak,aR,aM,aJ,aP,qz,c2];refine xQ [48] hin ?_;simp[aJ];refine aD [0,1,2,3,4,5,6,40,41,42,43,44,45,46,47,50,49] jC H H (by simp[aA,aH,aj,ak,aR,aM,aJ,aP,Ft]) (by simp[aA]) ?_;rw[<-hZ];simp[-az,aH,aj,ak,aR,aM,aJ,aP,results60];exact⟨[(17,51),(18,52),(19,53),(20,54),(21,55),(22,56),(23,57),(24,58),(25,59),(26,60)],H⟩
 all_goals
  have hi:=yZ eM;obtain⟨K,hKe⟩:=lT (s1.ix[gO s1.ix (e.uri++10::e.var)]);have hKo:=hKO K (by rw[<-hKe];exact bB hi);have nE:=tM hi;have iG:=ZB hi (k:=⟨e.uri++10::e.var,e.order,x.1*256+x.2,e.body⟩);simp only at iG;rw[ai eM,Nx hi,hKe]at jC hZ;rw[hKe]at nE;generalize gO s1.ix (e.uri++10::e.var)=i at*;have uk:=hKo.bl;have vN:=Ct K hKo.place;have FZ:=Cu K hKo;have UD:=Ga 5 45 46 47 50 u.rm.n (by constructor<;>omega) PN.n u.rm.F u.rm.R u.rm.W PN.F PN.R PN.W (if kind=2 then[K.gP]else K.exts) (by split<;>simp[Kn.exts];omega);obtain⟨gm,UE⟩:=lT (u.rm.gG (if kind=2 then[K.gP]else K.exts));have m1:gm.n=u.rm.n:=by rw[<-UE];rfl
  have m2:gm.F=u.rm.F:=by rw[<-UE];rfl
  have m3:gm.R=u.rm.R:=by rw[<-UE];rfl
  have m4:gm.W=if fH u.rm.n u.rm.F u.rm.W (if kind=2 then[K.gP]else K.exts)=true then((if kind=2 then[K.gP]else K.exts).map toE).foldl gu u.rm.W else u.rm.W:=by rw[<-UE];rfl
  rw[<-m4]at UD
  first
   |rw[ai (U c2)]at UD UE jC hZ
   |rw[ah (U c2)]at UD UE jC hZ
  rw[UE]at jC hZ;clear UE m4;obtain⟨L2,hL2⟩:=lT (s1.ix.set i ⟨e.uri++10::e.var,e.order,x.1*256+x.2,e.body⟩);have Ft:L2.length=s1.ix.length:=by rw[<-hL2];simp
  rw[hL2]at jC iG hZ;generalize hV:St.wrote {u with rm:=gm,ix:=L2} kind cc (e.uri++10::e.var)=V at jC hZ;have hle:i*4+4<=s1.ix.length*4:=O;have Cj:List.take 4 (List.drop (i*4) (List.map AV.p (nU s1.ix)))=[.p (.str K.key),.p (.int K.order),.p (.int K.place),.p (.sl (K.body.map dO))]:=by
   rw[<-jG,<-fG,nE];rfl
  have Iv:List.take (i*4) (List.map AV.p (nU s1.ix))++AV.p (PC.str (e.uri++10::e.var))::AV.p (PC.int e.order)::AV.p (PC.int (x.1*256+x.2))::AV.p (PC.sl (e.body.map dO))::List.drop (i*4+4) (List.map AV.p (nU s1.ix))=List.map AV.p (nU L2):=by
   rw[<-iG,<-jG,<-fG];simp
  refine pR [0,1,2,3,4,5,6,28,29,30,31,32,33,34,35,36,37,17,39] PL ?_;simp[aH,aj,ak,aR,aM,aJ,aP,qz,hi,hle,Cj,c2]
  first|refine aZ vN ?_|refine aZ FZ ?_
  simp;refine o7 UD rfl ?_;simp[qz,hi,hle,Iv];refine aD [0,1,2,3,4,5,6,40,41,42,43,44,45,46,50,48,49] jC H H (by simp[aA,aH,aj,ak,aR,aM,aJ,aP,m1,m2,m3,qz,Ft]) (by simp[aA]) ?_;rw[<-hZ];simp[-az,aH,aj,ak,aR,aM,aJ,aP,results60];exact⟨[(17,51),(18,52),(19,53),(20,54),(21,55),(22,56),(23,57),(24,58),(25,59),(26,60)],H⟩
end Go.Av
