/- TiersAgain, part 20: what functions compute, and its plain law; no condition. -/
import Derived.Test.YtgkdpbambfgahaaGreatDoorWas
set_option linter.all false
set_option maxRecDepth 100000
set_option maxHeartbeats 64000000
namespace Go.aL
open Go.Av
def Bd(c:Nat)(s:St):Prop:=∃t,gR t s/\200<=t/\t+48*s.ix.length+(if s.sure=true then 0 else 24)<=c
def Bd.up{c d:Nat}{s:St}(h:Bd c s)(hcd:c<=d):Bd d s:=by
 obtain⟨t,h1,h2,h3⟩:=h;exact⟨t,h1,h2,O⟩
def Bd.lM{c:Nat}{s:St}(h:Bd c s):gR c s:=by
 obtain⟨t,h1,h2,h3⟩:=h;exact h1.up O
theorem G6(s:St):s.sync.1.ix=s.ix:=by unfold St.sync;split<;>rfl
theorem EZ{s:St}(h:s.sync.2=0):s.sync.1.sure=true:=by
 unfold St.sync at h⊢;simp only at h;rw[ai h];rfl
theorem L9(s:St)(h:s.sure=true):s.sync.1.sure=true:=by unfold St.sync;split;rfl;omega
def Bd.sync{c:Nat}{s:St}(h:Bd c s):Bd (c+8) s.sync.1:=by
 obtain⟨t,h1,h2,h3⟩:=h;refine⟨t+8,h1.sync,O,?_⟩
 grind [G6,L9]
def Bd.Ng{c:Nat}{s:St}(h:Bd c s)(hs:s.sure=false)(h0:s.sync.2=0):Bd c s.sync.1:=by
 obtain⟨t,h1,h2,h3⟩:=h;refine⟨t+8,h1.sync,O,?_⟩
 grind [G6,EZ]
def Is(s:St)(kind e:Int)(key:aF):(s.wrote kind e key).ix=s.ix:=by unfold St.wrote;split<;>rfl
theorem aa'(T:St×Bool×Int)(kind:Int)(key:aF):(St.w7 T kind key).1.ix=if T.2.1=true then T.1.ix.take (gO T.1.ix key)++T.1.ix.drop (gO T.1.ix key+1)else T.1.ix:=by
 unfold St.w7;split
 .rw[Is];rfl
 .rfl
def E0(s:St)(kind:Int)(key:aF):(s.remove kind key).1.ix=if(s.remove kind key).2.1=true then s.ix.take (gO s.ix key)++s.ix.drop (gO s.ix key+1)else s.ix:=by
 grind [Sh,St.remove,St.w7,aa']
def tO{s:St}{kind:Int}{key:aF}(h:(s.remove kind key).2.2=0):(s.remove kind key).2.1=true:=by
 grind [St.remove,St.w7,ag6]
theorem gR.remove{t:Nat}{s:St}(h:gR t s)(h2:200<=t/\t<=20000)(kind:Int)(key:aF):gR (t+24) (s.remove kind key).1:=by
 have h3:=Gj h h2 key (s.ix.length-1);unfold St.remove St.w7;split
 .exact(h3.out _).wrote _ _ _
 .exact h3.up O
def WH{R:Go.cD.jX Cs}{count:Int}(h:(pM R count).2.1=false):(pM R count).1.sure=R.s.s.sure:=by
 unfold pM at h⊢;by_cases c:R.e=0
 .rw[ai c]at h⊢;by_cases d:(R.s.s.commit R.root count).2.1=true
  .grind
  .rw[ah d];show(if _ then _ else _)=_;have d':¬(R.s.s.J.commit R.s.s.D [(0,pS R.root count)]).2.2.1=true:=d
   grind
 .rw[ah c];rfl
theorem Bd.remove{c:Nat}{s:St}(h:Bd c s)(hc:c<=20000)(kind:Int)(key:aF)(hb:qn s.ix key=true):Bd (if(s.remove kind key).2.1=true then c else c+24) (s.remove kind key).1:=by
 obtain⟨t,h1,h2,h3⟩:=h;refine⟨t+24,h1.remove O kind key,O,?_⟩;rw[E0];split
 .have hi:=yZ hb
  grind
 .rename_i c1;have jR:(s.remove kind key).2.1=false:=by grind
  have hs:(s.remove kind key).1.sure=s.sure:=by
   have e:s.remove kind key=((pM (bM.jk ⟨s,[],[]⟩ s.root key) (s.ix.length-1)).1,false,(pM (bM.jk ⟨s,[],[]⟩ s.root key) (s.ix.length-1)).2.2):=by
    grind [St.remove,St.w7]
   have e2:(pM (bM.jk ⟨s,[],[]⟩ s.root key) (s.ix.length-1)).2.1=false:=by
    grind [St.remove,St.w7]
   rw[e];show(pM _ _).1.sure=_;rw[WH e2];exact(Bf s s.root key).2.2.2.2.1
  grind
def St.o6(p:St->Bool)(s:St):St×Int:=s.uA p (2*s.ix.length+2)
def WJ(c n:Nat)(s:St):Prop:=Bd c s/\2*s.ix.length+(if s.sure=true then 0 else 1)+1<=n
def uf{c:Nat}{s:St}(h:Bd c s):WJ c (2*s.ix.length+2) s:=⟨h,by grind⟩
def xL{c n:Nat}{s:St}(h:WJ c (n+1) s)(hs:s.sure=false)(h0:s.sync.2=0):WJ c n s.sync.1:=by
 refine⟨h.1.Ng hs h0,?_⟩;have:=h.2
 grind [G6,EZ]
def Cn{c:Nat}{s:St}(h:Bd c s)(hx:s.ix.length≠0):qn s.ix (fy s.ix s.ix.length).key=true:=at_mem h.lM.RJ (UR hx)
def A4{c n:Nat}(hc:c<=20000){s:St}(h:WJ c (n+1) s)(hs:s.sure=true)(hx:s.ix.length≠0)(h0:(s.remove 4 (fy s.ix s.ix.length).key).2.2=0):WJ c n (s.remove 4 (fy s.ix s.ix.length).key).1:=by
 have hb:=Cn h.1 hx;have hd:=tO h0;have h1:=h.1.remove hc 4 (fy s.ix s.ix.length).key hb;rw[ai hd]at h1;refine⟨h1,?_⟩;have h2:=h.2;rw[hs]at h2;rw[E0,ai hd];have hi:=yZ hb
 grind
theorem L_{c:Nat}(hc:c<=19000)(p:St->Bool):∀(n:Nat) (s:St),Bd c s->Bd (c+24) (s.uA p n).1
 |0,s,h=>h.up O
 |n+1,s,h=>by
  unfold St.uA;split
  .exact h.up O
  .split
   .rename_i hs;split
    .rename_i h0;exact L_ hc p n _ (h.Ng hs h0)
    .exact h.sync.up O
   .rename_i hs;split
    .exact h.up O
    .rename_i hx;have hb:=Cn h hx;have h1:=h.remove O 4 (fy s.ix s.ix.length).key hb;simp only;split
     .rename_i h0;rw[ai (tO h0)]at h1;exact L_ hc p n _ h1
     .refine h1.up ?_
      grind
theorem G7{c:Nat}(hc:c<=20000)(p:St->Bool):∀(n:Nat) (s:St),WJ c n s->(s.uA p n).2=0->p (s.uA p n).1=true
 |0,s,h,_=>by have:=h.2;omega
 |n+1,s,h,h0=>by
  unfold St.uA at h0⊢;by_cases c1:p s=true
  .grind
  .rw[ah c1]at h0⊢;by_cases c2:s.sure=false
   .rw[ai c2]at h0⊢;by_cases c3:s.sync.2=0
    .rw[ai c3]at h0⊢;exact G7 hc p n _ (xL h c2 c3) h0
    grind
   .rw[ah c2]at h0⊢;by_cases c4:s.ix.length=0
    .grind
    .rw[ah c4]at h0⊢;simp only at h0⊢;by_cases c5:(s.remove 4 (fy s.ix s.ix.length).key).2.2=0
     .rw[ai c5]at h0⊢;exact G7 hc p n _ (A4 hc h (by grind) c4 c5) h0
     grind
def tG{c:Nat}(hc:c<=20000){p:St->Bool}{s:St}(h:Bd c s)(h0:(s.o6 p).2=0):p (s.o6 p).1=true:=G7 hc p _ s (uf h) h0
def ya{c:Nat}(hc:c<=19000){p:St->Bool}{s:St}(h:Bd c s):Bd (c+24) (s.o6 p).1:=L_ hc p _ s h
end Go.aL
namespace Go.Av
open Go.Proofs Go.Proofs.Tryz Go.aL
def Ma{c n:Nat}(hc:c<=19000){s:St}(h:WJ c n s):bN 31 [.obj 6 0] ⟨aH 0 7 s,cH 7,17⟩ (.p (.int s.sync.2)) ⟨aH 0 17 s.sync.1,cH 17,27⟩:=afZ c s h.1.lM O
def Q6{c:Nat}(hc:c<=19000){s:St}(h:Bd c s)(kind:Int)(key:aF)(hb:qn s.ix key=true):bN 89 [.obj 6 0,.p (.int kind),.p (.str key)] ⟨aH 0 7 s,cH 7,17⟩ (.agg true [.p (.bool (s.remove kind key).2.1),.p (.int (s.remove kind key).2.2)]) ⟨aH 0 17 (s.remove kind key).1,cH 17,27⟩:=by
 have hS:=h.lM;have h2:200<=c:=by obtain⟨t,_,h2,h3⟩:=h;omega
 obtain⟨hi,hk⟩:=tN hb;have ye:=(hS.ix _ (bB hi)).key;rw[hk]at ye;exact Jj c (c+8) (c+16) s hS O kind key O ((WK hS s.root key).cok hS (aX _) h2) O (Gj hS ⟨h2,O⟩ key _) O (Sh s s.root _ key) hb
def WL{c n:Nat}(hc:c<=19000){s:St}(h:WJ c n s)(hx:s.ix.length≠0):bN 89 [.obj 6 0,.p (.int 4),.p (.str (fy s.ix s.ix.length).key)] ⟨aH 0 7 s,cH 7,17⟩ (.agg true [.p (.bool (s.remove 4 (fy s.ix s.ix.length).key).2.1),.p (.int (s.remove 4 (fy s.ix s.ix.length).key).2.2)]) ⟨aH 0 17 (s.remove 4 (fy s.ix s.ix.length).key).1,cH 17,27⟩:=Q6 hc h.1 4 _ (Cn h.1 hx)
def ajJ{c:Nat}(hc:c<=19000){s:St}(h:Bd c s):bN 225 [.obj 6 0,.mB (.func 228) [.obj 17 0]] ⟨(17,Ki)::aH 0 7 s,cH 7,18⟩ (.p (.int (s.o6 dV).2)) ⟨(17,Ki)::aH 0 18 (s.o6 dV).1,cH 18,28⟩:=VO (WJ c) (λs h=>absurd h.2 O) (λn s h=>⟨h.1.lM.sl.F.RP h.1.lM.sl.n,h.1.lM.RQ⟩) (λn s h _ _=>Ma hc h) (λn s h _ hs h0=>xL h hs h0) (λn s h _ _ hx=>WL hc h hx) (λn s h _ hs hx h0=>A4 O h hs hx h0) _ s (uf h)
def ajK(w:Sm){c:Nat}(hc:c<=19000){s:St}(h:Bd c s):bN 225 [.obj 6 0,.mB (.func 226) [.obj 19 0]] ⟨(19,SH)::fm 0 8 {w with s:=s},cH 8,20⟩ (.p (.int (s.o6 iE).2)) ⟨(19,SH)::(7,fC 6 18 w)::(18,eF w.e.body)::aH 0 20 (s.o6 iE).1,cH 20,30⟩:=WM w (WJ c) (λs h=>absurd h.2 O) (λn s h=>⟨h.1.lM.rm.F.RP h.1.lM.rm.n,h.1.lM.RQ⟩) (λn s h _ _=>Ma hc h) (λn s h _ hs h0=>xL h hs h0) (λn s h _ _ hx=>WL hc h hx) (λn s h _ hs hx h0=>A4 O h hs hx h0) _ s (uf h)
def akq(L:List dY)(hL:L.length<=1000000){c:Nat}(hc:c<=19000){s:St}(h:Bd c s):bN 225 [.obj 6 0,.mB (.func 230) [.obj 17 0,.obj 18 0]] ⟨(17,Ki)::(18,Z_ L)::aH 0 7 s,cH 7,19⟩ (.p (.int (s.o6 (kL L)).2)) ⟨(17,Ki)::(18,Z_ L)::aH 0 19 (s.o6 (kL L)).1,cH 19,29⟩:=Vu L hL (WJ c) (λs h=>absurd h.2 O) (λn s h=>⟨h.1.lM.rm,h.1.lM.RQ⟩) (λn s h _ _=>Ma hc h) (λn s h _ hs h0=>xL h hs h0) (λn s h _ _ hx=>WL hc h hx) (λn s h _ hs hx h0=>A4 O h hs hx h0) _ s (uf h)
end Go.Av
namespace Go.aL
open Go.Av
def seg(L:List dY)(a n:Nat):List dY:=(L.drop a).take n
def ov(L:List dY)(a:Nat)(l:List dY):List dY:=L.take a++(l++L.drop (a+l.length))
theorem xC(L:List dY)(a n i:Nat):(seg L a n)[i]?=if i<n then L[a+i]? else none:=by
 grind [seg]
def FX{L l:List dY}{a:Nat}(h:a+l.length<=L.length):(ov L a l).length=L.length:=by simp[ov];omega
theorem yV{L l:List dY}{a:Nat}(h:a+l.length<=L.length)(i:Nat):(ov L a l)[i]?=if i<a then L[i]? else if i<a+l.length then l[i-a]? else L[i]?:=by
 grind [ov]
theorem mN{L l:List dY}{a:Nat}(h:a+l.length<=L.length):seg (ov L a l) a l.length=l:=by
 apply qV
 grind [xC,yV]
def kS{L l:List dY}{a b n:Nat}(h:a+l.length<=L.length)(hb:b+n<=a\/a+l.length<=b):seg (ov L a l) b n=seg L b n:=by
 apply qV
 grind [xC,yV]
theorem wQ(L:List dY)(a m n:Nat):seg L a (m+n)=seg L a m++seg L (a+m) n:=by
 grind [seg,List.drop_drop]
def YU{L:List dY}{a n:Nat}(h:a+n<=L.length):(seg L a n).length=n:=by simp[seg];omega
def NB(L:List dY)(a n b m:Nat)(h:b+m<=n):seg (seg L a n) b m=seg L (a+b) m:=by
 apply qV
 grind [xC]
theorem VM(L:List dY)(a:Nat)(b:dY)(l:List dY)(h:a+1+l.length<=L.length):ov (L.set a b) (a+1) l=ov L a (b::l):=by
 apply qV
 grind [yV]
def VN(L:List dY)(a:Nat):ov L a []=L:=by simp[ov]
structure Gd(N:Nat)(D:bt):Prop where
 left:D.left=-1
 bad:D.bad=[]
 kl:D.kept.length=N
 nl:D.now.length=N
 n:-9223372036854775808<=D.n/\D.n<=9223372036854775807
 k64:∀s∈D.kept,s.length=64
 n64:∀s∈D.now,s.length=64
 qs:∀w∈D.q,w.1<N/\w.2.length=64
 inv:∀i,(∀w∈D.q,w.1≠i)->D.kept[i]?=D.now[i]?
def Gd.dok{N b:Nat}{D:bt}(h:Gd N D)(hN:1<=N/\N<=65536)(hq:D.q.length<=b):fJ b D:=⟨h.nl.trans h.kl.symm,by rw[h.kl];omega,by rw[h.kl];omega,h.k64,h.n64,hq,λw hw=>by rw[h.kl];exact h.qs w hw,by rw[h.left];omega,h.n,by rw[h.bad];simp⟩
def Gd.next{N:Nat}{D:bt}(h:Gd N D):D.next.2=0/\Gd N D.next.1/\D.next.1.now=D.now/\D.next.1.kept=D.kept/\D.next.1.q=D.q:=by
 have hl:=h.left;have hb:=h.bad;unfold bt.next;rw[ah O];have hw:=tF (D.n+1);refine⟨by grind,⟨by grind,hb,h.kl,h.nl,hw,h.k64,h.n64,h.qs,h.inv⟩,rfl,rfl,rfl⟩
theorem Gd.lay{N:Nat}:∀(l:List dY) (a:Nat) {D:bt},Gd N D->a+l.length<=N->(∀s∈l,s.length=64)->Gd N (D.lay a l)/\(D.lay a l).now=ov D.now a l/\(D.lay a l).kept=D.kept/\(D.lay a l).q.length=D.q.length+l.length
 |[],a,D,h,_,_=>⟨h,(VN _ _).symm,rfl,rfl⟩
 |b::l,a,D,h,ha,hl=>by
  rw[cF]at ha;have h':Gd N {D with q:=D.q++[(a,b)],now:=D.now.set a b}:=by
   refine⟨h.left,h.bad,h.kl,by simp[h.nl],h.n,h.k64,λs hs=>?_,λw hw=>?_,λi hi=>?_⟩
   .rcases F5 hs with hs|rfl
    .exact h.n64 s hs
    .exact hl _ H
   .rcases lD.1 hw with hw|hw
    .exact h.qs w hw
    .simp at hw;subst hw;exact⟨O,hl _ H⟩
   .have hia:a≠i:=by have:=hi (a,b) H;simpa using this
    rw[List.getElem?_set_ne hia];exact h.inv i λw hw=>hi w (by simp[hw])
  obtain⟨k1,k2,k3,k4⟩:=Gd.lay l (a+1) h' O (λs hs=>hl s (by simp[hs]));refine⟨k1,?_,k3,?_⟩
  .show(bt.lay _ (a+1) l).now=_;rw[k2];exact VM _ _ _ _ (by rw[h.nl];omega)
  .show(bt.lay _ (a+1) l).q.length=_;rw[k4];simp;omega
theorem Gd.there{N:Nat}{D:bt}(h:Gd N D){a n:Nat}(ha:a+n<=N):D.there a n=true:=by
 unfold bt.there;rw[h.kl];simp only[bG,eZ];omega
def Gd.write{N:Nat}{D:bt}(h:Gd N D){a:Nat}{l:List dY}(ha:a+l.length<=N)(hl:∀s∈l,s.length=64):(D.write a l).2=0/\Gd N (D.write a l).1/\(D.write a l).1.now=ov D.now a l/\(D.write a l).1.kept=D.kept/\(D.write a l).1.q.length=D.q.length+l.length:=by
 obtain⟨h1,h2,h3,h4,h5⟩:=h.next;unfold bt.write;rw[ai ⟨h.there ha,by grind⟩,ai h1]
 grind [Gd.lay]
def Gd.read{N:Nat}{D:bt}(h:Gd N D){a n:Nat}(ha:a+n<=N):(D.read a n).2=(seg D.now a n,0)/\Gd N (D.read a n).1/\(D.read a n).1.now=D.now/\(D.read a n).1.kept=D.kept/\(D.read a n).1.q=D.q:=by
 obtain⟨h1,h2,h3,h4,h5⟩:=h.next;unfold bt.read;rw[ai (h.there ha),ai h1];exact⟨rfl,h2,h3,h4,h5⟩
theorem z7(now:List dY):∀(q:List (Nat×dY)) (k:List dY),k.length=now.length->(∀w∈q,w.1<now.length)->(∀i,(∀w∈q,w.1≠i)->k[i]?=now[i]?)->gH now q k=now
 |[],k,_,_,h=>qV λi=>h i H
 |w::q,k,hl,hq,h=>by
  unfold gH;refine z7 now q _ (by grind) (λv hv=>hq v (by grind)) λi hi=>?_
  grind
def Gd.flush{N:Nat}{D:bt}(h:Gd N D):D.flush.2=0/\Gd N D.flush.1/\D.flush.1.now=D.now/\D.flush.1.kept=D.now/\D.flush.1.q=[]:=by
 obtain⟨h1,h2,h3,h4,h5⟩:=h.next;unfold bt.flush;rw[ai h1];have hs:gH D.next.1.now D.next.1.q D.next.1.kept=D.next.1.now:=z7 _ _ _ (h2.kl.trans h2.nl.symm) (λw hw=>by rw[h2.nl];exact(h2.qs w hw).1) h2.inv;refine⟨rfl,⟨h2.left,h2.bad,?_,h2.nl,h2.n,?_,h2.n64,by simp[bt.settle],?_⟩,h3,?_,rfl⟩
 .simp only[bt.settle];rw[hs];exact h2.nl
 .simp only[bt.settle];rw[hs];exact h2.n64
 all_goals grind [bt.settle]
def Gd.same{N:Nat}{D:bt}(h:Gd N D)(hq:D.q=[]):D.kept=D.now:=qV λi=>h.inv i (by grind)
theorem Gd.made{N:Nat}:Gd N (bt.made N):=by
 refine⟨rfl,rfl,by simp[bt.made],by simp[bt.made],by simp[bt.made],λs hs=>?_,λs hs=>?_,by simp[bt.made],λi _=>rfl⟩
 all_goals grind [bt.made,Go.Av.pT]
structure Out(r:Nat)(D E:bt):Prop where
 nl:E.now.length=D.now.length
 kl:E.kept.length=D.kept.length
 up:∀i,r<=i->E.now[i]?=D.now[i]?
 bad:E.bad=D.bad
 left:D.left=-1->E.left=-1
theorem Out.refl(r:Nat)(D:bt):Out r D D:=⟨rfl,rfl,λ_ _=>rfl,rfl,id⟩
def Out.trans{r:Nat}{D E F:bt}(h:Out r D E)(k:Out r E F):Out r D F:=⟨k.nl.trans h.nl,k.kl.trans h.kl,λi hi=>(k.up i hi).trans (h.up i hi),k.bad.trans h.bad,λe=>k.left (h.left e)⟩
def qg(r:Nat)(D:bt):Out r D D.next.1:=by
 obtain⟨h1,h2,h3,h4⟩:=Go.Av.lg D;refine⟨by rw[h2],by rw[h1],λi _=>by rw[h2],h4,λe=>?_⟩;unfold bt.next;rw[ah O];simp only;rw[ai O]
theorem Ol(r:Nat):∀(l:List dY) (a:Nat) (D:bt),a+l.length<=r->Out r D (D.lay a l)
 |[],_,D,_=>Out.refl r D
 |b::l,a,D,h=>by
  rw[cF]at h;have ih:=Ol r l (a+1) {D with q:=D.q++[(a,b)],now:=D.now.set a b} O;have h0:Out r D {D with q:=D.q++[(a,b)],now:=D.now.set a b}:=⟨H,rfl,λi hi=>by show(D.now.set a b)[i]?=_;rw[List.getElem?_set_ne O],rfl,id⟩;exact h0.trans ih
theorem qa{r:Nat}(D:bt){a:Int}{l:List dY}(h:0<=a/\a+l.length<=r):Out r D (D.write a l).1:=by
 unfold bt.write;split
 .split
  .exact(qg r D).trans (Ol r l a.toNat _ O)
  .exact qg r D
 .exact Out.refl r D
def qm(r:Nat)(D:bt):Out r D D.flush.1:=by
 have h:=qg r D;unfold bt.flush;split
 .exact h.trans ⟨rfl,lq _ _ _,λ_ _=>rfl,rfl,id⟩
 .exact h
theorem Ue(r:Nat)(D:bt)(a n:Int):Out r D (D.read a n).1:=by
 unfold bt.read;split
 .split<;>exact qg r D
 .exact Out.refl r D
theorem JE{r:Nat}:∀(l:List wB) (D:bt),(∀p∈l,p.1=0)->1<=r->Out r D (ko l D).1
 |[],D,_,_=>Out.refl r D
 |p::l,D,h,hr=>by
  have hw:=qa (r:=r) D (a:=p.1) (l:=[p.2]) (by rw[h p H];simp;omega);unfold ko;split
  .exact hw.trans (JE l _ (λq hq=>h q (by simp[hq])) hr)
  .exact hw
def abe{r:Nat}(D:bt){cy a:Int}{L:List dY}(hL:1<=L.length)(h:0<=cy+a/\cy+a+L.length<=r):Out r D (bg (jd cy L a) D).1:=by
 unfold jd;simp only[bg];have hl:(L.take (L.length-1)++[Go.Av.fU []]).length=L.length:=by simp;omega
 have w1:=qa (r:=r) D (a:=cy+a) (l:=L.take (L.length-1)++[Go.Av.fU []]) (by rw[hl];exact h);split
 .have f1:=w1.trans (qm r _);split
  .have w2:=f1.trans (qa (r:=r) _ (a:=cy+(a+(L.length-1:Nat))) (l:=[L.getD (L.length-1) []]) (by simp;omega));split<;>exact w2
  .exact f1
 .exact w1
structure JI(J:Jr):Prop where
 cy:J.cy=1
 n:5<=J.n
 at':0<=J.at'/\J.at'<=J.n
 base:0<=J.base/\J.base<=J.n
 cnt:J.cnt=J.di.length
 wr:J.di=[]->J.wr=false
 ho:∀p∈J.di,p.1=0
def WS{r:Nat}{J:Jr}(h:JI J)(D:bt)(hr:1+J.n<=r):Out r D (J.tell D).1:=by
 have:=h.n;unfold Jr.tell;refine qa D ?_;rw[h.cy];simp;omega
def Cm{r:Nat}{J:Jr}(h:JI J)(D:bt)(hr:1+J.n<=r):Out r D (J.settle D).2.1:=by
 have hn:=h.n;have key:Out r D (bg (kJ J) D).1:=by
  unfold kJ;simp only[bg];have f1:=qm r D;split
  .have q1:=f1.trans (JE J.di _ h.ho O);split
   .have f2:=q1.trans (qm r _);split
    .have q2:=f2.trans (WS h _ hr);split
     .have f3:=q2.trans (qm r _);split<;>exact f3
     .exact q2
    .exact f2
   .exact q1
  .exact f1
 unfold Jr.settle;split
 .exact Out.refl r D
 .split<;>exact key
def Er{J:Jr}(h:JI J)(D:bt):JI (J.settle D).1/\(J.settle D).1.n=J.n/\((J.settle D).2.2=0->(J.settle D).1.di=[]/\(J.settle D).1.wr=false):=by
 unfold Jr.settle;split
 .rename_i c;have ho:J.di=[]:=by have:=h.cnt;rw[c]at this;exact TK.1 O
  exact⟨h,rfl,λ_=>⟨ho,h.wr ho⟩⟩
 .split
  .exact⟨⟨h.cy,h.n,h.at',h.at',by simp[Jr.settled],λ_=>rfl,by simp[Jr.settled]⟩,rfl,λ_=>⟨rfl,rfl⟩⟩
  .rename_i c;exact⟨h,rfl,λe=>absurd e c⟩
def abf{J:Jr}(h:JI J)(hl:J.di.length<=1000000)(b:dY){a:Int}(ha:0<=a/\a+3<=J.n):JI (J.done [(0,b)] a):=by
 have hc:=h.cnt;have hb:=h.base;refine⟨h.cy,h.n,by simp[Jr.done];omega,by simp only[Jr.done];split<;>omega,?_,λe=>?_,λp hp=>?_⟩
 .simp only[Jr.done];rw[aG,mo,hc];simp
 .simp[Jr.done]at e
 .simp only[Jr.done,lD,gK]at hp;rcases hp with hp|rfl
  .exact h.ho p hp
  .rfl
def JF{r:Nat}{J:Jr}(h:JI J)(hl:J.di.length<=1000000)(D:bt)(b:dY){a:Int}(ha:0<=a/\a+3<=J.n)(hr:1+J.n<=r):Out r D (J.uo D [(0,b)] a).2.1/\JI (J.uo D [(0,b)] a).1/\(J.uo D [(0,b)] a).1.n=J.n:=by
 have hL:(nQ J.next [(0,b)]).length=3:=by rw[wv];rfl
 have hc:=abe (r:=r) D (cy:=J.cy) (a:=a) (L:=nQ J.next [(0,b)]) O (by rw[hL,h.cy];omega);unfold Jr.uo;split
 .exact⟨hc.trans (qm r _),abf h hl b ha,rfl⟩
 .exact⟨hc,h,rfl⟩
def Om{J:Jr}(h:JI J)(hr:(jh J 3).2=true):0<=(jh J 3).1/\(jh J 3).1+3<=J.n:=by
 have h1:=h.n;have h2:=h.at';have h3:=h.base;unfold jh at hr⊢;split
 .rename_i c;rw[ai c]at hr;simp at hr;simp only;omega
 .rename_i c;rw[ah c]at hr;split
  .simp only;omega
  .rename_i d;rw[ah d]at hr;split
   .simp only;omega
   .rename_i e;rw[ah e]at hr;simp at hr;simp only;omega
def Ld{r:Nat}{J:Jr}(h:JI J)(hl:J.di.length<=1000000)(D:bt)(b:dY)(hr:1+J.n<=r):Out r D (J.commit D [(0,b)]).2.1/\JI (J.commit D [(0,b)]).1/\(J.commit D [(0,b)]).1.n=J.n:=by
 have e3:((([(0,b)]:List wB).length:Int)+2)=3:=rfl;unfold Jr.commit;rw[e3];split
 .split
  .rename_i c;exact JF h hl D b (Om h c) hr
  .have hs:=Cm h D hr;obtain⟨s1,s2,s3⟩:=Er h D;split
   .rename_i c;obtain⟨s4,s5⟩:=s3 c;have h5:=s1.n;have eM:=s1.at';have K0:=s1.cnt;rw[s4]at K0;have qo:0<=(jh (J.settle D).1 3).1/\(jh (J.settle D).1 3).1+3<=(J.settle D).1.n:=by
     refine Om s1 ?_;unfold jh;rw[ah (by rw[s5];simp)];split
     .rfl
     .rw[ai (U K0)]
    obtain⟨q1,q2,q3⟩:=JF s1 (by rw[s4];simp) (r:=r) (J.settle D).2.1 b qo (by rw[s2];exact hr);exact⟨hs.trans q1,q2,q3.trans s2⟩
   .exact⟨hs,s1,s2⟩
 .exact⟨Out.refl r D,h,rfl⟩
def Sm.at(w:Sm)(s:St):Sm:={w with s:=s}
def Sm.bV(w:Sm):Sm×Int×Int:=if w.longer.2=true then w.cG else if(w.s.o6 iE).2=0 then(w.at (w.s.o6 iE).1).cG else(w.at (w.s.o6 iE).1,0,(w.s.o6 iE).2)
structure qG(l:eL):Prop where
 bl:l.length<=8
 bo:∀e∈l,0<=e.1/\e.1<=65536/\1<=e.2/\e.2<=65536
theorem x9{n:Nat}:∀(es:eL) (S:List Ext),ku n S es=true->∀e∈es,0<=e.1/\1<=e.2/\e.1+e.2<=n
 |[],_,_=>H
 |e::es,S,h=>by
  simp only[ku,bG,sj]at h;obtain⟨h1,h2,h3⟩:=h;intro x hx;rcases fF.1 hx with rfl|hx
  .obtain⟨u,v⟩:=x;simp[Mz]at h1;simp only;omega
  .exact x9 es _ h3 x hx
def Hz{m:Mp}(hm:mh m){es:eL}(h:(m.hold es).2=true):∀e∈es,0<=e.1/\1<=e.2/\e.1+e.2<=m.n:=by
 unfold Mp.hold kg at h;simp only[bG]at h;exact x9 es [] h.1
def uT{w:Sm}(hm:mh w.s.rm)(h:qG w.e.body):qG w.longer.1.e.body/\w.longer.1.e.body.length=w.e.body.length:=by
 unfold Sm.longer;split
 .exact⟨h,rfl⟩
 .rename_i x hx;simp only;split
  .rename_i hh;have hx':=h.bo x (List.mem_of_getLast? hx);have ht:=Hz hm hh (x.1+x.2,1) H;have hn:=hm.n;have hne:w.e.body≠[]:=by rintro e;rw[e]at hx;simp at hx
   have hpos:=Fj.2 hne;have uk:=h.bl;refine⟨⟨by simp;omega,λe he=>?_⟩,by simp;omega⟩;rcases lD.1 he with he|he
   .exact h.bo e ((List.dropLast_sublist _).subset he)
   .simp at he;subst he;simp only at ht⊢;omega
  .exact⟨h,rfl⟩
theorem Fs{m:Mp}(hm:mh m)(h:0<xV m.F):m.run 1<m.F.length:=by
 unfold Mp.run;have hne:m.F≠[]:=by rintro e;rw[e]at h;simp[xV]at h
 cases hF:m.F with
 |nil=>exact absurd hF hne
 |cons x l=>
  have hx:=hm.F.nr.pos x (by rw[hF];simp);have:¬(!decide ((1:Int)<=(x.2:Int)))=true:=by simp;omega
  rw[uN,ah this];simp
end Go.aL
namespace Go.Av
open Go.Proofs Go.Proofs.Tryz Go.aL
def O2{c:Nat}(hc:c<=19000){s:St}(h:Bd c s):bN 146 [.obj 6 0] ⟨aH 0 7 s,cH 7,17⟩ (.p (.int (s.o6 dV).2)) ⟨aH 0 17 (s.o6 dV).1,cH 17,27⟩:=by
 have hmk:=ajJ hc h;generalize hV:s.o6 dV=V at hmk⊢;obtain⟨v,e⟩:=V;simp only at hmk⊢;refine aq [_] [1] [] [] func146 rfl ?_;simp[aH,aj,ak,aR,aM,aJ,aP];refine o7 hmk rfl ?_;simp[-az,aH,aj,ak,aR,aM,aJ,aP,results146];exact⟨[(17,18),(18,19),(19,20),(20,21),(21,22),(22,23),(23,24),(24,25),(25,26),(26,27)],H⟩
def X'{w:Sm}{c:Nat}(hc:c<=19000)(h:Bd c w.s):bN 225 [.obj 6 0,.mB (.func 226) [.obj 19 0]] ⟨(19,SH)::fm 0 8 w,cH 8,20⟩ (.p (.int (w.s.o6 iE).2)) ⟨(19,SH)::(7,fC 6 18 w)::(18,eF w.e.body)::aH 0 20 (w.s.o6 iE).1,cH 20,30⟩:=ajK w hc h
def HA(w:Sm):Tb:=⟨(19,⟨28,1,[.obj 7 0]⟩)::fm 0 20 w,cH 20,31⟩
def KC{c:Nat}(hc:c<=18000)(w:Sm)(h:Bd c w.s)(hb:qG w.e.body):bN 145 [.obj 7 0] ⟨fm 0 8 w,cH 8,19⟩ (.agg true [.p (.int w.bV.2.1),.p (.int w.bV.2.2)]) ⟨fm 0 19 w.bV.1,cH 19,30⟩:=by
 have Hl:=D_ c w ⟨h.lM,hb.bl,hb.bo⟩;have hmk:=X' O h;have Xv:=ya (p:=iE) O h;have Xw:=tG (p:=iE) O h;have hlb:=uT h.lM.rm hb;generalize hZ:w.bV=Z;unfold Sm.bV at hZ;refine kQ (rs:=[_,_]) [1] [(9,[(0,.r 1),(1,.r 1),(5,.r 2),(6,.r 4),(8,.w [1,2,4]),(12,.s 2 [])]),(10,[(0,.r 1),(4,.r 2),(5,.r 1),(9,.r 2),(13,.r 3),(14,.w [1,2,3]),(15,.s 5 [])])] [(1,19),(2,7),(3,30),(4,54),(5,31)] func145 rfl bp bp (by simp[ntmps145]) rfl ?_;refine iF mixed [(1,.obj 19 0)] ⟨(19,⟨28,1,[.obj 7 0]⟩)::fm 0 8 w,cH 8,20⟩ ?_ ?_
 .simp[fm,fC,eF,aH,aj,ak,aR,aM,aJ,aP];exact aB H
 refine oU mixed (λw':Sm=>Z=(w',mC w'.e.body,0)/\w'.e.body≠[]/\w'.e.body.length<=100/\∀x∈w'.e.body,0<=x.1/\x.1<=65536/\0<=x.2/\x.2<=65537) (λ_=>[(1,.obj 19 0)]) (λw'=>HA w') ?_ ?_
 .have uk:=hb.bl;cases hq:w.longer.2 with
  |true=>
   rw[ai hq]at hZ;unfold Sm.cG at hZ;rw[ai hq]at hZ;rw[hq]at Hl;have hne:w.longer.1.e.body≠[]/\w.longer.1.e.body.length<=100:=by
    refine⟨?_,by have:=hlb.2;omega⟩;unfold Sm.longer at hq⊢;split
    .rename_i hx;rw[hx]at hq;simp at hq
    .rename_i x hx;rw[hx]at hq;simp only at hq;simp[hq]
   have hL:=hlb.1.bo;generalize w.longer.1=w1 at hZ Hl hL hne;simp[fm,fC,eF,aH,aj,ak,aR,aM,aJ,aP];refine xQ [0,1,2,3,4,5,6,7,8,9,10,11,12,13,14,15,16,17,18] Hl ?_;simp[fm,fC,eF,aH,aj,ak,aR,aM,aJ,aP];exact⟨w1,⟨hZ.symm,hne.1,hne.2,λa b hab=>by have:=hL (a,b) hab;simp only at this;omega⟩,aB (by simp[HA,fm,fC,eF,aH,aj,ak,aR,aM,aJ,aP])⟩
  |false=>
   have hlo:=Ea hq;rw[hq,hlo]at Hl;rw[hq]at hZ;simp only[dZ,dc]at hZ;generalize hM:w.s.o6 iE=M at hmk hZ Xv Xw;obtain⟨s',e⟩:=M;simp only at hmk hZ Xv Xw;by_cases ce:e=0
   .subst ce;rw[ai rfl]at hZ;have hyes:=Xw rfl;have hF:0<xV s'.rm.F:=by unfold iE at hyes;simpa using hyes
    have SI:=Xv.lM.rm;have hrun:=Fs SI hF;have lF:=Ay 5 46 47 48 52 (by constructor<;>omega) s'.rm SI 1 O hrun;rw[show((1:Nat):Int)=1 from rfl]at lF;have hT:=SI.take 1;have hn':=SI.n;have Ft:=D_ _ (w.at s') ⟨Xv.lM,hb.bl,hb.bo⟩;have ajL:=uT (w:=w.at s') SI hb;unfold Sm.cG at hZ;cases Fu:(w.at s').longer.2 with
    |true=>
     rw[ai Fu]at hZ;rw[Fu]at Ft;have hne:(w.at s').longer.1.e.body≠[]/\(w.at s').longer.1.e.body.length<=100:=by
      refine⟨?_,by have:=ajL.2;show _<=_;rw[this];show w.e.body.length<=100;omega⟩;unfold Sm.longer at Fu⊢;split
      .rename_i hx;rw[hx]at Fu;simp at Fu
      .rename_i x hx;rw[hx]at Fu;simp only at Fu;simp[Fu]
     have hL:=ajL.1.bo;generalize(w.at s').longer.1=w1 at hZ Ft hL hne;simp[fm,fC,eF,aH,aj,ak,aR,aM,aJ,aP];refine xQ [0,1,2,3,4,5,6,7,8,9,10,11,12,13,14,15,16,17,18] Hl ?_;simp[fm,fC,eF,aH,aj,ak,aR,aM,aJ,aP];refine xQ [0,1,2,3,4,5,6,7,20,21,22,23,24,25,26,27,28,29,30,19] hmk ?_;simp[fm,fC,eF,aH,aj,ak,aR,aM,aJ,aP];refine aD [0,1,2,3,4,5,6,7,31,32,33,34,35,36,37,38,39,40,30] Ft H H (by simp[aA,Sm.at,fm,fC,eF,aH,aj,ak,aR,aM,aJ,aP]) (by simp[aA]) ?_;simp[fm,fC,eF,aH,aj,ak,aR,aM,aJ,aP];exact⟨w1,⟨hZ.symm,hne.1,hne.2,λa b hab=>by have:=hL (a,b) hab;simp only at this;omega⟩,aE [(20,41),(21,42),(22,43),(23,44),(24,45),(25,46),(26,47),(27,48),(28,49),(29,50),(30,51)] (by simp[HA,fm,fC,eF,aH,aj,ak,aR,aM,aJ,aP])⟩
    |false=>
     rw[ah (by rw[Fu];simp)]at hZ;rw[Fu,Ea Fu]at Ft;by_cases c8:w.e.body.length=8
     .rw[ai (by exact c8)]at hZ;rw[<-hZ];simp[fm,fC,eF,aH,aj,ak,aR,aM,aJ,aP];refine xQ [0,1,2,3,4,5,6,7,8,9,10,11,12,13,14,15,16,17,18] Hl ?_;simp[fm,fC,eF,aH,aj,ak,aR,aM,aJ,aP];refine xQ [0,1,2,3,4,5,6,7,20,21,22,23,24,25,26,27,28,29,30,19] hmk ?_;simp[fm,fC,eF,aH,aj,ak,aR,aM,aJ,aP];refine aD [0,1,2,3,4,5,6,7,31,32,33,34,35,36,37,38,39,40,30] Ft H H (by simp[aA,Sm.at,fm,fC,eF,aH,aj,ak,aR,aM,aJ,aP]) (by simp[aA]) ?_;simp[-az,Sm.at,fm,fC,eF,aH,aj,ak,aR,aM,aJ,aP,c8,results145];exact⟨[(19,41),(20,42),(21,43),(22,44),(23,45),(24,46),(25,47),(26,48),(27,49),(28,50),(29,51)],H⟩
     .rw[ah (by exact c8)]at hZ;have c8':((w.e.body.length:Int)==8)=false:=by simp;omega
      have hn:(s'.rm.take 1).1.n=s'.rm.n:=hT.2.1;have Bx:(s'.rm.take 1).2.2=true:=by unfold Mp.take;rw[ai ⟨O,U hrun⟩]
      have hTx:=hT.2.2.2.2 Bx;have hlt:w.e.body.length<=8:=uk;have hT3:=hT.2.2.1;simp only[Sm.at]at hZ;generalize O4:s'.rm.take 1=M at hZ hTx hn lF hT3;obtain⟨m',x,b⟩:=M;simp only at hZ hTx hn lF hT3;have bd1:xR [x]=[PC.int x.1,PC.int x.2]:=rfl;have SJ:List.take (w.e.body.length*2) (List.map AV.p (xR w.e.body))=List.map AV.p (xR w.e.body):=gv H;have hbn:∀a b:Int,(a,b)∈w.e.body++[x]->0<=a/\a<=65536/\0<=b/\b<=65537:=by
       intro a b hab;rcases lD.1 hab with hab|hab
       .have:=hb.bo (a,b) hab;simp only at this;omega
       .simp at hab;obtain⟨h1,h2,h3⟩:=hTx;rw[<-hab]at h2 h3 hT3;simp only at h2 h3 hT3;omega
      simp[fm,fC,eF,aH,aj,ak,aR,aM,aJ,aP];refine xQ [0,1,2,3,4,5,6,7,8,9,10,11,12,13,14,15,16,17,18] Hl ?_;simp[fm,fC,eF,aH,aj,ak,aR,aM,aJ,aP];refine xQ [0,1,2,3,4,5,6,7,20,21,22,23,24,25,26,27,28,29,30,19] hmk ?_;simp[fm,fC,eF,aH,aj,ak,aR,aM,aJ,aP];refine aD [0,1,2,3,4,5,6,7,31,32,33,34,35,36,37,38,39,40,30] Ft H H (by simp[aA,Sm.at,fm,fC,eF,aH,aj,ak,aR,aM,aJ,aP]) (by simp[aA]) ?_;simp[Sm.at,fm,fC,eF,aH,aj,ak,aR,aM,aJ,aP,c8'];refine o7 lF rfl ?_;simp;exact⟨O,O,{w with s:={s' with rm:=m'},e:={w.e with body:=w.e.body++[x]}},⟨hZ.symm,H,by simp;omega,hbn⟩,aE [(20,41),(21,42),(22,43),(23,44),(24,45),(25,52),(26,53),(27,48),(28,49),(29,50),(30,55)] (by simp[HA,fm,fC,eF,aH,aj,ak,aR,aM,aJ,aP,iB,iy,cI,hn,SJ,qH,bd1])⟩
   .rw[ah ce]at hZ;have Ya:(e !=0)=true:=U ce;rw[<-hZ];simp[fm,fC,eF,aH,aj,ak,aR,aM,aJ,aP];refine xQ [0,1,2,3,4,5,6,7,8,9,10,11,12,13,14,15,16,17,18] Hl ?_;simp[fm,fC,eF,aH,aj,ak,aR,aM,aJ,aP];refine xQ [0,1,2,3,4,5,6,7,20,21,22,23,24,25,26,27,28,29,30,19] hmk ?_;simp[-az,Ya,Sm.at,fm,fC,eF,aH,aj,ak,aR,aM,aJ,aP,results145];exact⟨[(19,31),(20,32),(21,33),(22,34),(23,35),(24,36),(25,37),(26,38),(27,39),(28,40),(29,30)],H⟩
 .rintro w' ⟨hw,hne,hlw,HB⟩;refine g_ mixed ?_;rw[hw];simp only;clear hZ hw Hl h hmk Xv Xw hlb hb;rcases uK w'.e.body with hb|⟨l,x,hb⟩
  .exact absurd hb hne
  rw[xU]at hb;have hx:=HB x (by rw[hb];simp);have hla:mC (l++[x])=x.1+x.2-1:=by simp[mC]
  have bd1:xR [x]=[PC.int x.1,PC.int x.2]:=rfl;rw[hb]at hlw;simp only[mo,cF,fQ]at hlw;have w1':IntKind.i64.wrap (l.length:Int)=(l.length:Int):=aG;have w2:IntKind.i64.wrap (x.1+x.2)=x.1+x.2:=aG;have w3:IntKind.i64.wrap (x.1+x.2-1)=x.1+x.2-1:=aG;have hd:List.drop (l.length*2) (List.map AV.p (xR l)++[AV.p (PC.int x.1),AV.p (PC.int x.2)])=[AV.p (PC.int x.1),AV.p (PC.int x.2)]:=kr H;simp[-az,HA,fm,fC,eF,aH,aj,ak,aR,aM,aJ,aP,hb,qH,bd1,hla,w1',w2,w3,hd,results145];refine⟨O,?_⟩;exact⟨[(19,20),(20,21),(21,22),(22,23),(23,24),(24,25),(25,26),(26,27),(27,28),(28,29),(29,30)],H⟩
end Go.Av
namespace Go.aL
open Go.Av
def AP(e:Int×Int)(i:Nat):Bool:=decide (e.1<=i)&&decide ((i:Int)<e.1+e.2)
def cnt(L:eL)(i:Nat):Nat:=L.countP λe=>AP e i
@[simp]theorem gW(L M:eL)(i:Nat):cnt (L++M) i=cnt L i+cnt M i:=by simp[cnt]
@[simp]def am3(i:Nat):cnt [] i=0:=rfl
theorem jI(e:Int×Int)(L:eL)(i:Nat):cnt (e::L) i=cnt L i+if AP e i=true then 1 else 0:=by simp[cnt,List.countP_cons]
theorem AQ(e:Int×Int)(i:Nat):cnt [e] i=if AP e i=true then 1 else 0:=by rw[jI];simp
def Y9{L:eL}{i:Nat}:1<=cnt L i↔∃e∈L,AP e i=true:=by
 grind [cnt,List.countP_pos_iff]
theorem toE_in{e:Int×Int}(h:0<=e.1)(h2:0<=e.2)(i:Nat):mF (toE e) i↔AP e i=true:=by
 grind [mF,toE,AP]
structure ic(m:Mp)(L:eL):Prop where
 one:∀i,cnt L i<=1
 off:∀i,1<=cnt L i->¬mem m.F i/\¬mem m.W i
 top:∀e∈L,0<=e.1/\1<=e.2/\e.1+e.2<=m.n
def ic.sub{m:Mp}{L M:eL}(h:ic m L)(hc:∀i,cnt M i<=cnt L i)(ht:∀e∈M,e∈L):ic m M:=⟨λi=>cT (hc i) (h.one i),λi hi=>h.off i (cT hi (hc i)),λe he=>h.top e (ht e he)⟩
def ic.perm{m:Mp}{L M:eL}(h:ic m L)(hc:L.Perm M):ic m M:=h.sub (λi=>by unfold cnt;rw[hc.countP_eq];omega) λe he=>hc.mem_iff.2 he
def T6{m:Mp}(h:mh m)(i:Nat):mem m.commit.F i↔mem m.F i\/mem m.W i:=by
 have hp:=pX h.F (es:=m.W) (λe he=>⟨h.W.nr.pos e he,h.W.top e he,λs hs hm=>h.fw s hm ⟨e,he,hs⟩⟩) (T7 h.W.nr) m.W.length (aX _);rw[eH]at hp;exact hp.2.1 i
def ic.commit{m:Mp}(hm:mh m){L:eL}(h:ic m L):ic m.commit L:=⟨h.one,λi hi=>⟨λhF=>by rcases(T6 hm i).1 hF with c|c;exact(h.off i hi).1 c;exact(h.off i hi).2 c,by rintro⟨e,he,_⟩;simp[Mp.commit]at he⟩,h.top⟩
def aeK{m:Mp}(h:mh m)(es:eL){i:Nat}(hi:mem (m.gG es).W i):mem m.W i\/1<=cnt es i:=by
 unfold Mp.gG at hi;by_cases c:fH m.n m.F m.W es=true
 .simp only[c,cr]at hi;unfold fH at c;simp only[bG]at c;obtain⟨c1,c2⟩:=c;obtain⟨r1,r2,r3⟩:=mR es [] pz c1;have ht:=x9 es [] c1;have hf:=Na c2;have hno:∀e∈es.map toE,vR m.F e=false/\vR m.W e=false:=λe he=>by grind
  have hp:=pX h.W (es:=es.map toE) (λe he=>⟨(r2 e he).1,(r2 e he).2.1,λs hs hm=>by
   have:=(sd h.W.nr e (r2 e he).1).2 ⟨s,hs,hm⟩
   grind⟩) r3 _ (aX _)
  rw[eH]at hp;rcases(hp.2.1 i).1 hi with c|⟨e,he,hin⟩
  .grind
  .right;obtain⟨x,hx,rfl⟩:=bE.1 he;have:=ht x hx;exact Y9.2 ⟨x,hx,(toE_in this.1 O i).1 hin⟩
 grind
def ic.gG{m:Mp}(hm:mh m){L es:eL}(h:ic m (es++L)):ic (m.gG es) L:=by
 refine⟨λi=>?_,λi hi=>⟨?_,λhW=>?_⟩,λe he=>h.top e (by grind)⟩
 .have:=h.one i;grind [gW]
 .have:=h.off i (by rw[gW];omega);exact this.1
 .rcases aeK hm es hW with c|c
  .exact(h.off i (by rw[gW];omega)).2 c
  .have:=h.one i;grind [gW]
def ic.taken{m:Mp}(hm:mh m){L:eL}(h:ic m L){k:Int}(hk:(m.take k).2.2=true):ic (m.take k).1 ((m.take k).2.1::L)/\∀i,AP (m.take k).2.1 i=true->mem m.F i:=by
 have ht:=hm.take k;obtain⟨t1,t2,t3,t4,t5⟩:=ht;obtain⟨u1,u2,u3⟩:=t5 hk;unfold Mp.take at hk t3 t4 u2 u3⊢;by_cases c:1<=k/\m.run k<m.F.length
 .simp only[ai c]at hk t3 t4 u2 u3⊢;obtain⟨c1,c2⟩:=c;obtain⟨h1,h2⟩:=wO m k;have hk2:=h2 c2;have hmem:=bB c2;have Bi:=hm.F.top _ hmem;have hg:m.F.getD (m.run k) (0,0)=m.F[m.run k]:=by grind
  rw[hg]at t3 t4 u2⊢;obtain⟨e,he⟩:∃e:Ext,(m.F[m.run k].1,k.toNat)=e:=⟨_,rfl⟩;have e1:e.1=m.F[m.run k].1:=by grind
  have e2:e.2=k.toNat:=by grind
  have hin:∀s,mF e s->mem m.F s:=λs hs=>⟨_,hmem,by grind [mF]⟩;have hh:hasB m.F e=true:=(qw hm.F.nr e O).2 hin;obtain⟨q1,q2⟩:=hm.F.cut (e:=e) O hh;have hI:∀i,AP ((m.F[m.run k].1:Int),k) i=true->mF e i:=λi hi=>by
   grind [AP,mF]
  rw[he];refine⟨⟨λi=>?_,λi hi=>?_,λx hx=>?_⟩,λi hi=>hin i (hI i hi)⟩
  .rw[jI];have h3:=h.one i;split
   .rename_i hi;have h4:=hin i (hI i hi);by_cases c5:1<=cnt L i
    .exact absurd h4 (h.off i c5).1
    .omega
   .omega
  .rw[jI]at hi;by_cases c5:AP ((m.F[m.run k].1:Int),k) i=true
   .have h4:=hI i c5;exact⟨λhF=>((q2 i).1 hF).2 h4,λhW=>hm.fw i (hin i h4) hW⟩
   .rw[ah c5]at hi;have h6:=h.off i O
    grind
  .rcases fF.1 hx with rfl|hx
   .grind
   .exact h.top x hx
 grind
def ic.held{m:Mp}(hm:mh m){L:eL}{x:Int×Int}(h:ic m (x::L))(hk:(m.hold [(x.1+x.2,1)]).2=true):ic (m.hold [(x.1+x.2,1)]).1 ((x.1,x.2+1)::L)/\mem m.F (x.1+x.2).toNat:=by
 have ht:=Hz hm hk (x.1+x.2,1) H;have hx:=h.top x H;unfold Mp.hold at hk⊢;simp only at hk⊢;have hk':=hk;unfold kg at hk;simp only[bG]at hk;obtain⟨c1,c2⟩:=hk;obtain⟨r1,r2,r3⟩:=mR [(x.1+x.2,1)] [] pz c1;have hf:=Na c2;have hh:∀e∈[(x.1+x.2,(1:Int))].map toE,hasB m.F e=true:=λe he=>by grind
 have hp:=B4 hm.F (es:=[(x.1+x.2,(1:Int))].map toE) (λe he=>⟨(r2 e he).1,(qw hm.F.nr e (r2 e he).1).1 (hh e he)⟩) r3 _ (aX _);rw[eH]at hp;have hq:=hp.2.1;rw[ai hk'];have hin:∀i,AP (x.1+x.2,1) i=true↔i=(x.1+x.2).toNat:=λi=>by
  grind [AP]
 have hmF:mem m.F (x.1+x.2).toNat:=by
  have h5:=(qw hm.F.nr (toE (x.1+x.2,1)) (by grind)).1 (hh _ H)
  grind [toE_in]
 have aeD:∀i,(if AP (x.1,x.2+1) i=true then 1 else 0)=(if AP x i=true then 1 else 0)+(if AP (x.1+x.2,1) i=true then 1 else 0):=λi=>by
  grind [AP]
 refine⟨⟨λi=>?_,λi hi=>?_,λy hy=>?_⟩,hmF⟩
 .have h3:=h.one i;rw[jI]at h3⊢;rw[aeD];by_cases c5:AP (x.1+x.2,1) i=true
  .have e:=(hin i).1 c5;subst e;by_cases c6:1<=cnt (x::L) (x.1+x.2).toNat
   .exact absurd hmF (h.off _ c6).1
   grind [jI]
  grind
 .rw[jI,aeD]at hi;by_cases c5:AP (x.1+x.2,1) i=true
  .have e:=(hin i).1 c5;subst e;refine⟨λhF=>?_,λhW=>hm.fw _ hmF hW⟩
   grind [toE_in]
  .rw[ah c5]at hi;have h6:=h.off i (by rw[jI];omega)
   grind
 .rcases fF.1 hy with rfl|hy
  .grind
  .exact h.top y (by grind)
def N0{a n t:Nat}(h:t<a+n):kO [(a,n)] t=0:=by
 have:¬a+n<=t:=O;simp[kO,this]
def N1{a n k:Nat}(hk:k<n):jo [(a,n)] (a,k)=[(a+k,n-k)]:=by
 have h1:kO [(a,n)] a=0:=N0 O;simp[jo,h1,uh,qy,hk]
def Z8{a n k:Nat}(h1:1<=k)(hk:k<=n):hasB [(a,n)] (a,k)=true:=by
 have h1:kO [(a,n)] a=0:=N0 O;simp[hasB,h1,hk]
def Qs{n a k:Nat}(h1:1<=k)(h:a+k<=n):ku n [] [((a:Int),(k:Int))]=true:=by
 have hm:vR [] (toE ((a:Int),(k:Int)))=false:=by simp[vR]
 simp[ku,Mz,hm];omega
def toE_nat(a k:Nat):toE ((a:Int),(k:Int))=(a,k):=by simp[toE]
def Vs{M:Mp}{a n k:Nat}(hF:M.F=[(a,n)])(h1:1<=k)(hk:k<n)(hn:a+n<=M.n):M.hold [((a:Int),(k:Int))]=({M with F:=[(a+k,n-k)]},true):=by
 have hb:kg M.n M.F [((a:Int),(k:Int))]=true:=by
  unfold kg;rw[Qs h1 O,hF];simp[toE_nat,Z8 h1 (Nat.le_of_lt hk)]
 unfold Mp.hold;rw[hb,ai rfl,hF];simp[toE_nat,N1 hk]
def Z9{M:Mp}{a n k:Nat}(hF:M.F=[(a,n)])(hk:k<=n):M.run k=0:=by
 unfold Mp.run;rw[hF];simp[hk]
def take_one{M:Mp}{a n k:Nat}(hF:M.F=[(a,n)])(h1:1<=k)(hk:k<n):∃R,M.take k=({M with F:=[(a+k,n-k)],R:=R},((a:Int),(k:Int)),true):=by
 have hr:=Z9 (M:=M) (k:=k) hF O;unfold Mp.take;rw[hr,ai ⟨O,by rw[hF];simp⟩,hF];refine⟨gu M.R (a,k),?_⟩;simp[N1 hk]
def Xy(m:Nat):eL:=if m=0 then[]else[(0,(m:Int))]
def KM{w:Sm}{m n:Nat}(hF:w.s.rm.F=[(m,n)])(hb:w.e.body=Xy m)(hm:1<n)(hn:m+n<=w.s.rm.n):∃R,w.cG=({w with s:={w.s with rm:={w.s.rm with F:=[(m+1,n-1)],R:=R}},e:={w.e with body:=Xy (m+1)}},(m:Int),0):=by
 unfold Xy at hb⊢;rw[ah O];by_cases h0:m=0
 .subst h0;rw[ai rfl]at hb;obtain⟨R,hR⟩:=take_one (M:=w.s.rm) (k:=1) hF O O;rw[show((1:Nat):Int)=1 from rfl]at hR;refine⟨R,?_⟩;have hl:w.longer=(w,false):=by unfold Sm.longer;rw[hb];rfl
  unfold Sm.cG;rw[hl];simp[hb,hR,mC]
 .rw[ah h0]at hb;have hh:=Vs (M:=w.s.rm) (k:=1) hF O O hn;rw[show((1:Nat):Int)=1 from rfl]at hh;have hl:w.longer=({w with s:={w.s with rm:={w.s.rm with F:=[(m+1,n-1)]}},e:={w.e with body:=[(0,((m+1:Nat):Int))]}},true):=by
   unfold Sm.longer;rw[hb];simp[hh]
  refine⟨w.s.rm.R,?_⟩;unfold Sm.cG;rw[hl];simp[mC]
def fL(e:cS):List dY:=b9 (frame (cL e.pack.length 2++e.pack))
def St.yf(s:St)(e:cS):Int×Int:=(s.rm.take (fL e).length).2.1
def St.FE(s:St)(e:cS):bt×Int:=s.D.write (cY s.jn s.pn+(s.yf e).1) (fL e)
def St.BG(s:St)(e:cS):St:={s with rm:=(s.rm.take (fL e).length).1,D:=(s.FE e).1}
end Go.aL
namespace Go.Av
open Go.Proofs Go.aL
def zM{P:Program}{f:FuncId}{fn:Func}{c:Code}{xs rs:List AV}{r:AV}{tb a_:Tb}(md:List Nat)(cls:List (Nat×List (Nat×Cls)))(lab:List (Nat×Nat))(ot:List (Nat×OT))(hf:P.funcs[f]?=some fn)(hb:fn.body=some c)(hnm:(fn.name=="runtime.NumGoroutine")=false)(hk:codeOk cls ot fn.ntmps c=true)(hx:xs.length<=fn.ntmps)(hr:r=wL rs)(h:Sem P ⟨md,cls,lab,tb.nx,ot⟩ c (mD xs tb) (ur P fn (Gg tb.nx rs a_))):dm P f xs tb r a_:=by
 refine⟨⟨fn,hf,hnm,by rw[hb];rfl⟩,λg w vs F hw hvs=>?_⟩;have:=vm (cx:=⟨md,cls,lab,tb.nx,ot⟩) hf hb hk hx rfl h hw hvs;refine this.mono ?_;rintro e w' ⟨us,zs,g',t,rfl,hle,hS,hR,rn,⟨h1,h2,h3,h4,h5,h6⟩,hto,wY⟩;refine⟨_,g'.cp (Cf rn) a_.nx,rfl,G.mS hle (iM:=tb.nx) (λi hi=>hw.fresh i O) h2 (λi hi=>nS h1 hi),hS.cp h3 h4 h5 h6,?_⟩;rw[hr];exact pZ (ie rs (ig _ hR hto) wY)
end Go.Av
namespace Go.aL
open Go.Av
def T9(x:Int)(n:Nat)(hx:0<=x):cL x (n+1)=cL (x/256) n++[zS x]:=by
 unfold cL;rw[List.range_succ,jB];congr 1
 .apply yG;intro j hj;have hj:=si.1 hj;rw[show 8*(n+1-1-j)=8+8*(n-1-j) by omega,Int.pow_add,Int.ediv_ediv_of_nonneg (by decide)];rfl
 .simp
def Y'(x:Int)(hx:0<=x):(zS x).toNat=x.toNat%256:=by
 unfold zS;simp;omega
theorem Ie:∀(n:Nat) (x:Int),0<=x->x<256^n->(m7 (cL x n):Int)=x
 |0,x,h,h2=>by simp[cL,m7];simp at h2;omega
 |n+1,x,h,h2=>by
  have h3:x/256<256^n:=by rw[Int.pow_succ]at h2;omega
  rw[T9 x n h,mG,Y' x h];have:=Ie n (x/256) O h3;omega
def x5(n:Nat)(x:Int)(h:0<=x)(h2:x<256^n)(h3:x<9223372036854775808):cZ (cL x n)=x:=by
 unfold cZ;rw[Ie n x h h2];exact aG
def kT(s:aF):aF:=cL s.length 2++s
def Pw(s:aF)(l:List (aF)):fP (s::l)=kT s++fP l:=by simp[fP,kT]
end Go.aL
namespace Go.Av
open Go.Proofs Go.Proofs.Tryz Go.aL
def yP(x:Int)(n:Nat)(r:aF)(hr:r.length<=100000000)(hn:n<=8)(h:0<=x)(h2:x<256^n)(h3:x<9223372036854775808):bN 330 [.obj 0 0,.p (.int n)] ⟨[(0,Kc (cL x n++r))],[],1⟩ (.p (.int x)) ⟨[(0,Kc r)],[],1⟩:=by
 have h:=Ce (cL x n++r) (by simp[bC];omega) n (by simp[bC]);rw[gN (bC x n),kr (bC x n),x5 n x ‹_› h2 h3]at h;exact h
def Px(s r:aF)(hr:r.length<=100000000)(h:s.length<65536):bN 331 [.obj 0 0] ⟨[(0,Kc (kT s++r))],[],1⟩ (.p (.str s)) ⟨[(0,Kc r)],[],1⟩:=by
 have hl:=bC (s.length:Int) 2;have h:=T_ (kT s++r) (by simp[kT,bC];omega) s.length (by simp[kT,bC]) (by rw[kT,cW,gN hl,x5 2 s.length O (by simp;omega) O]) (by simp[kT,bC];try omega);rw[kT,cW,kr hl,gN rfl]at h;rw[show 2+s.length=(cL s.length 2++s).length by simp[bC],<-cW,kr rfl]at h;rw[kT,cW];rwa[cW]at h
end Go.Av
namespace Go.aL
open Go.Av (fP)
def vp(f:Go.Av.Fd):List UInt8:=kT f.1++kT f.2
def vq(x:Int×Int):List UInt8:=cL x.1 4++cL x.2 4
def Nj(e:cS):e.pack=cL 69 1++(cL e.st.st 2++(cL e.st.mi 1++(cL e.asked 8++(cL e.got 8++(cL e.order 8++(cL e.size 4++(cL e.sum 4++(kT e.uri++(kT e.var++(kT e.st.r++(cL e.names.length 1++(fP e.names++(cL e.fields.length 1++(e.fields.flatMap vp++(cL e.body.length 1++e.body.flatMap vq))))))))))))))):=by
 have h69:cL 69 1=[69]:=by decide
 have hf:(e.fields.flatMap λf=>fP [f.1,f.2])=e.fields.flatMap vp:=by
  congr 1;funext f;simp[fP,vp,kT]
 have hb:(e.body.flatMap λx=>cL x.1 4++cL x.2 4)=e.body.flatMap vq:=rfl;simp only[cS.pack,cS.h4,cS.h3,cS.h2,cS.h1,hf,hb];simp[fP,kT,h69,List.append_assoc]
def yT{α β:Type}(f:α->List β)(l:List α)(k:Nat):((l.drop k).flatMap f).length<=(l.flatMap f).length:=by
 conv=>rhs;rw[<-List.take_append_drop k l,List.flatMap_append,List.length_append]
 omega
structure akr(e:cS):Prop where
 st:0<=e.st.st/\e.st.st<65536
 mi:0<=e.st.mi/\e.st.mi<256
 asked:0<=e.asked/\e.asked<9223372036854775808
 got:0<=e.got/\e.got<9223372036854775808
 order:0<=e.order/\e.order<9223372036854775808
 size:0<=e.size/\e.size<4294967296
 sum:e.sum<4294967296
 uri:e.uri.length<65536
 var:e.var.length<65536
 r:e.st.r.length<65536
 nl:e.names.length<256
 ns:∀s∈e.names,s.length<65536
 fl:e.fields.length<256
 fs:∀f∈e.fields,f.1.length<65536/\f.2.length<65536
 bl:e.body.length<256
 bs:∀x∈e.body,(0<=x.1/\x.1<4294967296)/\0<=x.2/\x.2<4294967296
end Go.aL
namespace Go.Av
open Go.Proofs Go.Proofs.Tryz Go.aL
def PI(e:cS)(h:akr e)(hp:e.pack.length<=10000)(hm:e.st.m=[])(ht:e.st.t=[]):bN 253 [.obj 0 0] ⟨[(0,Kc e.pack)],[],1⟩ (.p (fK e)) ⟨[(0,Kc [])],[],1⟩:=by
 rw[Nj]at hp⊢;obtain⟨R16,h16⟩:=lT (e.body.flatMap vq);rw[h16]at hp⊢;obtain⟨R15,h15⟩:=lT (cL e.body.length 1++R16);rw[h15]at hp⊢;obtain⟨R14,h14⟩:=lT (e.fields.flatMap vp++R15);rw[h14]at hp⊢;obtain⟨R13,h13⟩:=lT (cL e.fields.length 1++R14);rw[h13]at hp⊢;obtain⟨R12,h12⟩:=lT (fP e.names++R13);rw[h12]at hp⊢;obtain⟨R11,h11⟩:=lT (cL e.names.length 1++R12);rw[h11]at hp⊢;obtain⟨R10,h10⟩:∃r,kT e.st.r++R11=r:=⟨_,rfl⟩;rw[h10]at hp⊢;obtain⟨R9,h9⟩:=lT (kT e.var++R10);rw[h9]at hp⊢;obtain⟨R8,h8⟩:=lT (kT e.uri++R9);rw[h8]at hp⊢;obtain⟨R7,h7⟩:=lT (cL e.sum 4++R8);rw[h7]at hp⊢;obtain⟨R6,h6⟩:=lT (cL e.size 4++R7);rw[h6]at hp⊢;obtain⟨R5,h5⟩:=lT (cL e.order 8++R6);rw[h5]at hp⊢;obtain⟨R4,h4⟩:=lT (cL e.got 8++R5);rw[h4]at hp⊢;obtain⟨R3,h3⟩:=lT (cL e.asked 8++R4);rw[h3]at hp⊢;obtain⟨R2,h2⟩:=lT (cL e.st.mi 1++R3);rw[h2]at hp⊢;obtain⟨R1,h1⟩:=lT (cL e.st.st 2++R2);rw[h1]at hp⊢;obtain⟨R0,h0⟩:=lT (cL 69 1++R1);rw[h0]at hp⊢;have l0:R0.length<=10000:=hp;have l1:R1.length<=10000:=by rw[<-h0]at l0;simp only[f_]at l0;omega
 have l2:R2.length<=10000:=by rw[<-h1]at l1;simp only[f_]at l1;omega
 have l3:R3.length<=10000:=by rw[<-h2]at l2;simp only[f_]at l2;omega
 have l4:R4.length<=10000:=by rw[<-h3]at l3;simp only[f_]at l3;omega
 have l5:R5.length<=10000:=by rw[<-h4]at l4;simp only[f_]at l4;omega
 have l6:R6.length<=10000:=by rw[<-h5]at l5;simp only[f_]at l5;omega
 have l7:R7.length<=10000:=by rw[<-h6]at l6;simp only[f_]at l6;omega
 have l8:R8.length<=10000:=by rw[<-h7]at l7;simp only[f_]at l7;omega
 have l9:R9.length<=10000:=by rw[<-h8]at l8;simp only[f_]at l8;omega
 have l10:R10.length<=10000:=by rw[<-h9]at l9;simp only[f_]at l9;omega
 have l11:R11.length<=10000:=by rw[<-h10]at l10;simp only[f_]at l10;omega
 have l12:R12.length<=10000:=by rw[<-h11]at l11;simp only[f_]at l11;omega
 have l13:R13.length<=10000:=by rw[<-h12]at l12;simp only[f_]at l12;omega
 have l14:R14.length<=10000:=by rw[<-h13]at l13;simp only[f_]at l13;omega
 have l15:R15.length<=10000:=by rw[<-h14]at l14;simp only[f_]at l14;omega
 have l16:R16.length<=10000:=by rw[<-h15]at l15;simp only[f_]at l15;omega
 have c0:=yP 69 1 R1 O O O H O;rw[h0]at c0;have c1:=yP e.st.st 2 R2 O O h.st.1 (by have:=h.st;simp;omega) (by have:=h.st;omega);rw[h1]at c1;have c2:=yP e.st.mi 1 R3 O O h.mi.1 (by have:=h.mi;simp;omega) (by have:=h.mi;omega);rw[h2]at c2;have c3:=yP e.asked 8 R4 O O h.asked.1 (by have:=h.asked;simp;omega) (by have:=h.asked;omega);rw[h3]at c3;have c4:=yP e.got 8 R5 O O h.got.1 (by have:=h.got;simp;omega) (by have:=h.got;omega);rw[h4]at c4;have c5:=yP e.order 8 R6 O O h.order.1 (by have:=h.order;simp;omega) (by have:=h.order;omega);rw[h5]at c5;have c6:=yP e.size 4 R7 O O h.size.1 (by have:=h.size;simp;omega) (by have:=h.size;omega);rw[h6]at c6;have c7:=yP e.sum 4 R8 O O O (by have:=h.sum;simp;omega) (by have:=h.sum;omega);rw[h7]at c7;have c8:=Px e.uri R9 O h.uri;rw[h8]at c8;have c9:=Px e.var R10 O h.var;rw[h9]at c9;have c10:=Px e.st.r R11 O h.r;rw[h10]at c10;have c11:=yP e.names.length 1 R12 O O O (by have:=h.nl;simp;omega) (by have:=h.nl;omega);rw[h11]at c11;have c13:=yP e.fields.length 1 R14 O O O (by have:=h.fl;simp;omega) (by have:=h.fl;omega);rw[h13]at c13;have c15:=yP e.body.length 1 R16 O O O (by have:=h.bl;simp;omega) (by have:=h.bl;omega);rw[h15]at c15;have aoA:IntKind.u32.wrap (e.sum:Int)=(e.sum:Int):=vl h.sum;refine aq [_] [] [(10,[(1,.r 1),(3,.w [1]),(5,.f [1,2]),(7,.s 1 [2])])] [(1,2),(2,0)] func253 rfl ?_;simp;refine jf [0] c0 ?_;simp;refine jf [0] c1 ?_;simp;refine jf [0] c2 ?_;simp;refine jf [0] c3 ?_;simp;refine jf [0] c4 ?_;simp;refine jf [0] c5 ?_;simp;refine jf [0] c6 ?_;simp;refine jf [0] c7 ?_;simp;refine jf [0] c8 ?_;simp;refine jf [0] c9 ?_;simp;refine jf [0] c10 ?_;simp;refine jf [0] c11 ?_;simp;refine aS (λk:Nat=>k<=e.names.length) (λk=>[(0,.obj 0 0),(2,.obj 1 0),(3,.obj 2 0),(48,.p (.int e.names.length)),(49,.p (.int k))]) (λk=>⟨[(0,Kc (fP (e.names.drop k)++R13)),(1,⟨49,15,[.p (.str []),.p .nil,.p (.str []),.p (.str []),.p (.str []),.p (.int 0),.p (.str []),.p (.int 0),.p .nil,.p (.int 0),.p (.int 0),.p (.int 0),.p (.int 0),.p (kR 0),.p .nil]⟩),(2,⟨49,15,[.p (.str e.uri),.own 3 ((e.names.take k).map PC.str),.p (.str e.var),.p (.str []),.p (.str []),.p (.int e.st.st),.p (.str e.st.r),.p (.int e.st.mi),.p .nil,.p (.int e.asked),.p (.int e.got),.p (.int e.order),.p (.int e.size),.p (kR e.sum),.p .nil]⟩)],[(3,9,1)],4⟩) (λk=>e.names.length-k) 0 H _ (j9 2 1 9 1 _ [] rfl (.inr ⟨rfl,rfl⟩)) (aB (by simp[h12,aoA])) ?_;intro k hk;by_cases ck:k<e.names.length
 .have wk:IntKind.i64.wrap ((k:Int)+1)=((k+1:Nat):Int):=by rw[bQ (by have:=h.nl;omega) (by have:=h.nl;omega)];rfl
  have hd:fP (e.names.drop k)++R13=kT e.names[k]++(fP (e.names.drop (k+1))++R13):=by rw[eK ck,Pw,cW]
  have hlen:(fP (e.names.drop (k+1))++R13).length<=100000:=by
   have hle:(fP (e.names.drop (k+1))).length<=(fP e.names).length:=yT _ _ _;have:=dg List.length h12;simp only[f_]at this⊢;omega
  have ct:=Px e.names[k] (fP (e.names.drop (k+1))++R13) O (h.ns _ (bB ck));rw[<-hd]at ct;have RH:=h.nl;simp[ck];refine jf [0] ct ?_;simp[wk];have hts:List.take (k+1) (List.map PC.str e.names)=List.take k (List.map PC.str e.names)++[PC.str e.names[k]]:=by rw[F6 (U ck)];simp
  exact⟨λx hx=>by obtain⟨f,_,rfl⟩:=bE.1 (K4 hx);rfl,O,O,k+1,O,O,aE [(3,4)] (by simp[hts])⟩
 .obtain rfl:k=e.names.length:=O;simp[fP];refine jf [0] c13 ?_;simp;refine aS (λk:Nat=>k<=e.fields.length) (λk=>[(0,.obj 0 0),(2,.obj 1 0),(3,.obj 2 0),(60,.p (.int e.fields.length)),(61,.p (.int k))]) (λk=>⟨[(0,Kc ((e.fields.drop k).flatMap vp++R15)),(1,⟨49,15,[.p (.str []),.p .nil,.p (.str []),.p (.str []),.p (.str []),.p (.int 0),.p (.str []),.p (.int 0),.p .nil,.p (.int 0),.p (.int 0),.p (.int 0),.p (.int 0),.p (kR 0),.p .nil]⟩),(2,⟨49,15,[.p (.str e.uri),.own 3 (e.names.map PC.str),.p (.str e.var),.p (.str []),.p (.str []),.p (.int e.st.st),.p (.str e.st.r),.p (.int e.st.mi),.own 4 ((e.fields.take k).map oL),.p (.int e.asked),.p (.int e.got),.p (.int e.order),.p (.int e.size),.p (kR e.sum),.p .nil]⟩)],[(3,9,1),(4,139,2)],5⟩) (λk=>e.fields.length-k) 0 H _ (j9 2 8 139 2 _ [] rfl (.inr ⟨rfl,rfl⟩)) (aB (by simp[h14])) ?_;intro k hk;by_cases ck:k<e.fields.length
  .have wk:IntKind.i64.wrap ((k:Int)+1)=((k+1:Nat):Int):=by rw[bQ (by have:=h.fl;omega) (by have:=h.fl;omega)];rfl
   have hd:(e.fields.drop k).flatMap vp++R15=kT e.fields[k].1++(kT e.fields[k].2++((e.fields.drop (k+1)).flatMap vp++R15)):=by
    rw[eK ck,cU,vp];simp only[cW]
   have hlen:((e.fields.drop k).flatMap vp++R15).length<=100000:=by
    have hle:((e.fields.drop k).flatMap vp).length<=(e.fields.flatMap vp).length:=yT _ _ _;have:=dg List.length h14;simp only[f_]at this⊢;omega
   rw[hd]at hlen;simp only[f_]at hlen;obtain⟨f1,f2⟩:=h.fs _ (bB ck);have ct:=Px e.fields[k].1 (kT e.fields[k].2++((e.fields.drop (k+1)).flatMap vp++R15)) (by simp only[f_];omega) f1;have ct2:=Px e.fields[k].2 ((e.fields.drop (k+1)).flatMap vp++R15) (by simp only[f_];omega) f2;rw[<-hd]at ct;have RH:=h.fl;simp[ck];refine jf [0] ct ?_;simp;refine jf [0] ct2 ?_;simp[wk];have hts:List.take (k+1) (List.map oL e.fields)=List.take k (List.map oL e.fields)++[oL e.fields[k]]:=by rw[F6 (U ck)];simp
   exact⟨λx hx=>by obtain⟨f,_,rfl⟩:=bE.1 (K4 hx);rfl,O,O,k+1,O,O,aE [(4,6)] (by simp[hts])⟩
  .obtain rfl:k=e.fields.length:=O;simp;refine jf [0] c15 ?_;simp;refine aS (λk:Nat=>k<=e.body.length) (λk=>[(0,.obj 0 0),(2,.obj 1 0),(3,.obj 2 0),(77,.p (.int e.body.length)),(78,.p (.int k))]) (λk=>⟨[(0,Kc ((e.body.drop k).flatMap vq)),(1,⟨49,15,[.p (.str []),.p .nil,.p (.str []),.p (.str []),.p (.str []),.p (.int 0),.p (.str []),.p (.int 0),.p .nil,.p (.int 0),.p (.int 0),.p (.int 0),.p (.int 0),.p (kR 0),.p .nil]⟩),(2,⟨49,15,[.p (.str e.uri),.own 3 (e.names.map PC.str),.p (.str e.var),.p (.str []),.p (.str []),.p (.int e.st.st),.p (.str e.st.r),.p (.int e.st.mi),.own 4 (e.fields.map oL),.p (.int e.asked),.p (.int e.got),.p (.int e.order),.p (.int e.size),.p (kR e.sum),.own 5 ((e.body.take k).map dO)]⟩)],[(3,9,1),(4,139,2),(5,157,2)],6⟩) (λk=>e.body.length-k) 0 H _ (j9 2 14 157 2 _ [] rfl (.inr ⟨rfl,rfl⟩)) (aB (by simp[h16])) ?_;intro k hk;by_cases ck:k<e.body.length
   .have wk:IntKind.i64.wrap ((k:Int)+1)=((k+1:Nat):Int):=by rw[bQ (by have:=h.bl;omega) (by have:=h.bl;omega)];rfl
    have hd:(e.body.drop k).flatMap vq=cL e.body[k].1 4++(cL e.body[k].2 4++(e.body.drop (k+1)).flatMap vq):=by
     rw[eK ck,cU,vq];simp only[cW]
    have hlen:((e.body.drop k).flatMap vq).length<=100000:=by
     have hle:((e.body.drop k).flatMap vq).length<=(e.body.flatMap vq).length:=yT _ _ _;rw[h16]at hle;omega
    rw[hd]at hlen;simp only[f_]at hlen;obtain⟨⟨f1,f2⟩,f3,f4⟩:=h.bs _ (bB ck);have ct:=yP e.body[k].1 4 (cL e.body[k].2 4++(e.body.drop (k+1)).flatMap vq) (by simp only[f_];omega) O f1 (by simp;omega) O;have ct2:=yP e.body[k].2 4 ((e.body.drop (k+1)).flatMap vq) O O f3 (by simp;omega) O;rw[<-hd]at ct;have RH:=h.bl;simp[ck];refine jf [0] ct ?_;simp;refine jf [0] ct2 ?_;simp[wk];have hts:List.take (k+1) (List.map dO e.body)=List.take k (List.map dO e.body)++[dO e.body[k]]:=by rw[F6 (U ck)];simp
    exact⟨λx hx=>by obtain⟨f,_,rfl⟩:=bE.1 (K4 hx);rfl,O,O,k+1,O,O,aE [(5,7)] (by simp[hts])⟩
   .obtain rfl:k=e.body.length:=O;simp[-az,results253];exact⟨[],by simp[hm,ht]⟩
def X5:Idle prog 252:=by
 intro args w;refine callsD_of_wpS (c:=Tryz.f252.body.get!) func252 rfl ?_;intro c₀ cs hc;have hsz:9<=(args++Array.replicate (Tryz.f252.ntmps-args.size) undef).size:=by
  have:Tryz.f252.ntmps=9:=rfl;simp;omega
 generalize args++Array.replicate (Tryz.f252.ntmps-args.size) undef=ts at hsz;show Code.wpS _ (Code.seq _ _) _ _ _ _;refine wpS_seq (wpS_region ?_);have hr:recoverD (c₀::cs)=none:=by
  obtain⟨⟩:=c₀;simp at hc;subst hc;rfl
 have hrun:∀(a:Act),(execOp a.eval {dst:=some 3,op:=Go.Op.call {callee:=Go.Callee.builtin Go.Builtin.recover,args:=#[],argTypes:=#[]},type:=20,pos:="entry.go:176",after:=#[],guard:=none}).run prog w= .ok .recover w:=by
  intro a;rfl
 have h2:2<ts.size:=O;have h3:3<ts.size:=O;have h4:4<ts.size:=O;have h5:5<ts.size:=O;have he:∀(a:Act),a.tmps[4]?=some .nilIface->(execOp a.eval {dst:=some 5,op:=Op.binOp BinOp.neq 20 (Operand.tmp 4) (Operand.const Value.nilIface) 20,type:=4,pos:="entry.go:176",after:=#[{on:=0,ground:=Ground.data}],guard:=none}).run prog w= .ok (.value (.bool false)) w:=by
  intro a h;simp[execOp,Act.eval,h];rfl
 have hmv:∀(a:Act),(execOp a.eval {dst:=some 4,op:=Op.move (Operand.tmp 2),type:=20,pos:="entry.go:176",after:=#[],guard:=none}).run prog w= .ok (.value (a.eval (.tmp 2))) w:=λa=>rfl;have has:∀(a:Act),(execOp a.eval {dst:=some 2,op:=Go.Op.assign (Go.Operand.tmp 3),type:=20,pos:="entry.go:176",after:=#[{on:=0,ground:=Go.Ground.data},{on:=0,ground:=Go.Ground.chain},{on:=0,ground:=Go.Ground.phase}],guard:=none}).run prog w= .ok (.value (a.eval (.tmp 3))) w:=λa=>rfl;simp only[wpOpsS,List.range,List.range.loop,Br,cF,fQ,uR,Region.wanted,hrun,hr,Exit.thenS,Kx,Ky,cr,has,Oper.upon];refine wpS_seq (wpS_region ?_);simp only[wpOpsS,List.range,List.range.loop,Br,cF,fQ,uR,Region.wanted,Kx,Ky,cr,hmv,Oper.upon,Exit.thenS];rw[he _ (by simp[Act.put,Act.eval,h2,h3,h4])];show Code.wpS _ (Code.cond _ _ _) _ _ _ _;refine wpS_cond (t:=false) (by simp[Act.put,Act.eval,h2,h3,h5]) ?_;refine wpS_of_wp (wp_skip ?_);refine⟨rfl,.returning,by obtain⟨⟩:=c₀;simp at hc;subst hc;rfl,?_⟩;exact⟨_,qF (vs:=[]) (by rfl),⟨_,rfl⟩,rfl,rfl⟩
def Qx(e:cS)(h:akr e)(hp:e.pack.length<=8000)(hok:e.Ok)(hr:e.right=true)(hm:e.st.m=[])(ht:e.st.t=[]):cq 159 [cK e.pack] (.tp [fK e,.int 0]):=by
 have hE:=PI e h O hm ht;have hR:=AH e hok;rw[hr]at hR;refine bF (xs:=[cK e.pack]) (r:= .agg true [.p (fK e),.p (.int 0)]) (a_:=⟨[],[],5⟩) ?_ ?_
 .refine GL (d:=5) (rs:=[_,_]) [8] [] [] [(0,.p (cK e.pack)),(2,.obj 0 0),(3,.obj 1 0)] ⟨[(0,⟨49,15,[.p (.str []),.p .nil,.p (.str []),.p (.str []),.p (.str []),.p (.int 0),.p (.str []),.p (.int 0),.p .nil,.p (.int 0),.p (.int 0),.p (.int 0),.p (.int 0),.p (kR 0),.p .nil]⟩),(1,⟨29,1,[.p (.int 0)]⟩)],[],2⟩ mixed func159 rfl bp bp (by simp[ntmps159]) rfl rfl rfl rfl (by simp[ntmps159]) rfl rfl rfl (by simp[ze,AJ]) X5 ⟨Tryz.f252,func252,bp,bp⟩ ?_ ?_
  .simp;exact⟨[(0,0),(1,1)],H,H⟩
  .simp;have h8:decide ((8000:Int)<(e.pack.length:Int))=false:=by simp;omega
   refine Dy [2] hE ?_;simp[h8];refine fY hR rfl ?_;simp
   done
 .simp[dA,AV.pc,j_]
end Go.Av
namespace Go.aL
open Go.Av
def Sw(k:Nat):secs k []=[]:=by cases k<;>simp[secs]
theorem Bm:∀(k:Nat) (b:aF),b.length<=k->∃z,(secs k b).flatten=b++List.replicate z 0
 |0,b,h=>⟨0,by have:b=[]:=o5 O;subst this;simp[secs]⟩
 |k+1,b,h=>by
  by_cases c:b=[]
  .subst c;exact⟨0,by simp[secs]⟩
  .have hl:0<b.length:=Fj.2 c;rw[secs,ah c,jz];by_cases c2:64<=b.length
   .obtain⟨z,hz⟩:=Bm k (b.drop 64) (by simp;omega);refine⟨z,?_⟩;rw[hz,show 64-b.length=0 by omega,List.replicate_zero,gL,<-cW,eO]
   .rw[gM O,gv O,Sw];exact⟨64-b.length,H⟩
def Bo(b:aF):∃z,(b9 b).flatten=b++List.replicate z 0:=Bm _ b (aX _)
def Kw{b:aF}(h:b.length%64=0):(b9 b).flatten=b:=by
 obtain⟨z,hz⟩:=Bo b;have h1:=xX (qB b);rw[dJ,hz,mo,List.length_replicate]at h1;obtain rfl:z=0:=O;rw[hz];simp
def Sx(n:Nat)(h:n<65536):(UInt8.ofNat (n/256)).toNat*256+(UInt8.ofNat n).toNat=n:=by
 rw[xY,xY];have:(2:Nat)^8=256:=rfl;omega
def Sy{b:aF}(h:b.length<=505):(kH 1 b).2=0/\(kH 1 b).1.length=512/\oe (kH 1 b).1=(1,b,0):=by
 have e:kH 1 b=(frame (UInt8.ofNat (1:Int).toNat::UInt8.ofNat (b.length/256)::UInt8.ofNat b.length::(b++List.replicate (505-b.length) 0)),0):=by
  unfold kH;rw[ah O,ah O]
 have hl:(kH 1 b).1.length=512:=by rw[e,gY];simp;omega
 refine⟨by rw[e],hl,?_⟩;unfold oe;rw[e]at hl⊢;simp only at hl⊢;rw[uP];rw[ah (by simp only;omega)];have hs:=Sx b.length O;simp only[Kq,List.getD_cons_succ];rw[hs];have hd:(UInt8.ofNat (1:Int).toNat::UInt8.ofNat (b.length/256)::UInt8.ofNat b.length::(b++List.replicate (505-b.length) 0)).drop (3+b.length)=List.replicate (505-b.length) 0:=by
  rw[show 3+b.length=b.length+1+1+1 by omega];simp only[gJ];exact kr rfl
 rw[hd];have ha:((List.replicate (505-b.length) (0:UInt8)).any λc=>!(c==0))=false:=by
  rw[uM];intro x hx;rw[(xZ.1 hx).2];simp
 have h1:(UInt8.ofNat (1:Int).toNat).toNat=1:=by decide
 rw[ha,h1,ah (by simp;omega)];simp[gN]
def Sz{N:Nat}{D:bt}(h:Gd N D){a:Nat}{b:aF}(hb:b.length<=505)(ha:a+8<=N):(lK D a 1 b).2=0/\Gd N (lK D a 1 b).1/\(lK D a 1 b).1.now=ov D.now a (b9 (kH 1 b).1)/\(lK D a 1 b).1.q.length=D.q.length+8/\(b9 (kH 1 b).1).length=8:=by
 obtain⟨p1,p2,p3⟩:=Sy hb;have hc:(b9 (kH 1 b).1).length=8:=by rw[dJ,p2]
 obtain⟨w1,w2,w3,w4,w5⟩:=h.write (a:=a) (l:=b9 (kH 1 b).1) O (qB _);unfold lK;rw[ai p1];exact⟨w1,w2,w3,by rw[w5,hc],hc⟩
def SA{e:cS}(hp:e.pack.length<=8000)(un:aF->cS×Int)(hu:un e.pack=(e,0)):X4 un (fL e).flatten=(e,0)/\Hv (fL e).flatten=e.pack:=by
 obtain⟨z,hz⟩:=Bo (frame (cL e.pack.length 2++e.pack));have hS:(fL e).flatten=frame (cL e.pack.length 2++e.pack)++List.replicate z 0:=hz;have b2:(cL (e.pack.length:Int) 2).length=2:=bC _ _;have hF:(frame (cL e.pack.length 2++e.pack)).length=e.pack.length+6:=by rw[gY,mo,b2];omega
 have ht:((fL e).flatten.take 2)=cL e.pack.length 2:=by
  rw[hS];unfold frame;rw[cW,cW];rw[gN b2]
 have hN:x4 (fL e).flatten=e.pack.length+2:=by
  unfold x4;rw[ht,x5 2 _ O (by simp;omega) O]
 have hT:(fL e).flatten.take (x4 (fL e).flatten+4).toNat=frame (cL e.pack.length 2++e.pack):=by
  rw[hN,show((e.pack.length:Int)+2+4).toNat=e.pack.length+6 by omega,hS];exact gN hF
 have hO:Hv (fL e).flatten=e.pack:=by
  unfold Hv;rw[hT,uP];exact kr b2
 refine⟨?_,hO⟩;unfold X4;rw[ah (by rw[hN,hS,mo,hF];omega),hT,uP,ai rfl,hO,hu,ai rfl]
def um(L:List dY)(r:Nat)(l:eL):aF:=(l.flatMap λx=>seg L (r+x.1.toNat) x.2.toNat).flatten
@[simp]def ana(L:List dY)(r:Nat):um L r []=[]:=rfl
theorem GU(L:List dY)(r:Nat)(a b:eL):um L r (a++b)=um L r a++um L r b:=by simp[um]
theorem GV(L:List dY)(r:Nat)(x:Int×Int):um L r [x]=(seg L (r+x.1.toNat) x.2.toNat).flatten:=by simp[um]
def CQ(L:List dY)(r:Nat)(x:Int×Int)(l:eL):um L r (x::l)=(seg L (r+x.1.toNat) x.2.toNat).flatten++um L r l:=by simp[um]
def Ja{L M:List dY}{r:Nat}{x:Int×Int}(hx:0<=x.1/\0<=x.2)(h:∀i,AP x i=true->M[r+i]?=L[r+i]?):seg M (r+x.1.toNat) x.2.toNat=seg L (r+x.1.toNat) x.2.toNat:=by
 apply qV;intro j;rw[xC,xC];split
 .rename_i hj;have:=h (x.1.toNat+j) (by unfold AP;simp only[bG,eZ];omega);rw[<-ow]at this;exact this
 .rfl
theorem sy{L M:List dY}{r:Nat}:∀{l:eL} (_:∀x∈l,0<=x.1/\0<=x.2) (_:∀i,1<=cnt l i->M[r+i]?=L[r+i]?),um M r l=um L r l
 |[],_,_=>rfl
 |x::l,hl,h=>by
  rw[CQ,CQ,Ja (hl x H) λi hi=>h i (by rw[jI,ai hi];omega),sy (λy hy=>hl y (by simp[hy])) λi hi=>h i (by rw[jI];omega)]
structure KD(L:List dY)(r:Nat)(k:Kn)(e:cS)(b:aF):Prop where
 key:k.key=e.uri++10::e.var
 ord:k.order=e.order
 bod:k.body=e.body
 rn:k.gP.2=(fL e).length
 at':seg L (r+k.gP.1.toNat) (fL e).length=fL e
 size:e.size=b.length
 sum:e.sum=m8 0 b
 um:∃z,Go.aL.um L r e.body=b++List.replicate z 0
def Gi(l:List Kn):eL:=l.flatMap Kn.exts
@[simp]def anb:Gi []=[]:=rfl
theorem Cl(k:Kn)(l:List Kn):Gi (k::l)=k.exts++Gi l:=rfl
theorem AW(a b:List Kn):Gi (a++b)=Gi a++Gi b:=by simp[Gi]
def VL{k:Kn}(h:KH k):∀x∈k.exts,0<=x.1/\0<=x.2:=by
 intro x hx;unfold Kn.exts at hx;rcases fF.1 hx with rfl|hx
 .have:=h.place;unfold Kn.gP;simp only;omega
 .have:=h.bo x hx;omega
def KD.same{L M:List dY}{r:Nat}{k:Kn}{e:cS}{b:aF}(h:KD L r k e b)(hk:KH k)(hs:∀i,1<=cnt k.exts i->M[r+i]?=L[r+i]?):KD M r k e b:=by
 have ht:=VL hk;unfold Kn.exts at ht hs;refine⟨h.key,h.ord,h.bod,h.rn,?_,h.size,h.sum,?_⟩
 .have h1:=Ja (L:=L) (M:=M) (r:=r) (ht k.gP H) λi hi=>hs i (by rw[jI,ai hi];omega);rw[h.rn]at h1;simp only[qS]at h1;rw[h1];exact h.at'
 .obtain⟨z,hz⟩:=h.um;refine⟨z,?_⟩;rw[<-hz,<-h.bod];exact sy (λx hx=>ht x (by simp[hx])) λi hi=>hs i (by rw[jI];omega)
def St.r0(s:St):Nat:=(cY s.jn s.pn).toNat
abbrev jV:=aF->Option (cS×aF)
def jV.no(M:jV)(key:aF):jV:=λx=>if x=key then none else M x
def jV.put(M:jV)(key:aF)(e:cS)(b:aF):jV:=λx=>if x=key then some (e,b)else M x
structure kX(r:Nat)(s:St)(X:eL)(M:jV):Prop where
 r0:cY s.jn s.pn=r
 J:JI s.J
 jn:s.J.n=s.jn
 ap:ic s.rm (Gi s.ix++X)
 data:∀k∈s.ix,∃e b,M k.key=some (e,b)/\KD s.D.now r k e b
 keys:∀key,M key≠none->∃k∈s.ix,k.key=key
def aat{l:List Kn}{k:Kn}(hk:k∈l)(i:Nat):cnt k.exts i<=cnt (Gi l) i:=by
 obtain⟨a,b,rfl⟩:=List.append_of_mem hk;rw[AW,Cl,gW,gW];omega
theorem kX.dev{r:Nat}{s u:St}{X:eL}{M:jV}(h:kX r s X M)(hk:∀k∈s.ix,KH k)(qz:u.ix=s.ix)(qo:u.rm=s.rm)(hj:u.jn=s.jn/\u.pn=s.pn)(hJ:JI u.J/\u.J.n=s.J.n)(hn:∀i,1<=cnt (Gi s.ix) i->u.D.now[r+i]?=s.D.now[r+i]?):kX r u X M:=by
 refine⟨by rw[hj.1,hj.2];exact h.r0,hJ.1,by rw[hJ.2,hj.1];exact h.jn,by rw[qz,qo];exact h.ap,λk hm=>?_,λkey hM=>by rw[qz];exact h.keys key hM⟩;rw[qz]at hm;obtain⟨e,b,h1,h2⟩:=h.data k hm;exact⟨e,b,h1,h2.same (hk k hm) λi hi=>hn i (cT hi (aat hm i))⟩
def kX.out{r:Nat}{s u:St}{X:eL}{M:jV}(h:kX r s X M)(hk:∀k∈s.ix,KH k)(qz:u.ix=s.ix)(qo:u.rm=s.rm)(hj:u.jn=s.jn/\u.pn=s.pn)(hJ:JI u.J/\u.J.n=s.J.n)(hD:Out r s.D u.D):kX r u X M:=h.dev hk qz qo hj hJ λi _=>hD.up _ O
end Go.aL
