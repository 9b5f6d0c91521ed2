/- DiskSizes, part 22: what the functions compute, and the plain law of that; no condition. -/
import Derived.Test.YtgkdpbambfgahaaGreatDoorWau
set_option linter.all false
set_option maxRecDepth 100000
set_option maxHeartbeats 64000000
namespace Go.Av
open Go.Proofs Go.aW
open Go.cI (Nd rB l_ Right jS Step dm Key gv jX qj Bp nS Ad fV ke lV Dx bh Ae bY rq tg iG jY DX nG ru DY)
theorem VP(t:Nat)(c:Cs)(h:fq t c)(ht:t<=20000)(root:Int)(hroot:jT root)(key:Key)(v:Int)(sQ:key.length<=1000000):aI Tryz.prog 150 [.obj 20 0,.p (.str key),.p (.int v)] ⟨jf.B 0 8 c++[(20,cJ root)],jG 8,21⟩ (.agg true [.p (.int (bA.mS c root key v).was),.p (.bool (bA.mS c root key v).had),.p (.int (bA.mS c root key v).e)]) ⟨jf.B 0 21 (bA.mS c root key v).s++[(20,cJ (bA.mS c root key v).root)],jG 21,33⟩:=by
 refine QgQ (rs:=[_,_,_]) [34] [(11,[(4,.r 1),(11,.f [1]),(14,.s 1 [])])] [(1,33)] Tryz.func150 rfl (by simp[Tryz.ntmps150]) ?_;have O8:=O9 key v;obtain⟨R,hR⟩:∃R,R=bA.mS c root key v:=⟨_,rfl⟩;rw[<-hR];by_cases c1:jY key v=false
 ·have e:R=⟨c,root,0,false,2⟩:=by rw[hR];unfold Go.cI.ey.mS;rw[if_neg (by rw[c1];simp)]
  rw[c1]at O8;rw[e];simp[cJ];refine ai O8 (by simp) ?_;simp[-aD,Tryz.results150];exact⟨cL 21 8 [],by simp⟩
 have jH:jY key v=true:=by simpa using c1
 rw[jH]at O8;have hw:=VQ t c h root hroot key;have hst:=fun l x=>O_ (c:=c) (key:=key) hroot (l:=l) (x:=x);have h1:=Ko key 40 root [] h;have y7:R=if(bA.way key 40 c root []).2.2=0 then bA.fW root (nG (bA.way key 40 c root []).2.1 key).1 (nG (bA.way key 40 c root []).2.1 key).2 (bA.BM (bA.way key 40 c root []).1 (bA.way key 40 c root []).2.1 key v)else⟨(bA.way key 40 c root []).1,root,0,false,(bA.way key 40 c root []).2.2⟩:=by rw[hR];unfold Go.cI.ey.mS;rw[if_pos jH]
 obtain⟨q,hq⟩:∃q,bA.way key 40 c root []=q:=⟨_,rfl⟩;rw[hq]at hw h1 y7;simp only[hq]at hst;obtain⟨c1,l,e⟩:=q;simp only at hw h1 hst y7;simp[cJ];refine ai O8 (by simp) ?_;simp;refine ak (pN 8 [20]) hw (by simp) (by simp) (by simp) (by simp) ?_;by_cases c2:e=0
 ·subst c2;rw[if_pos rfl]at y7;rcases List.eq_nil_or_concat l with rfl|⟨l,x,rfl⟩
  ·have wn:IntKind.i64.wrap (-1)=-1:=by decide
   have hfm:bY tg key=0:=rfl;have hhm:rq tg key=false:=rfl;have hlf:iG tg key v=fV tg 0 key [v]:=rfl;have jJ:lW tg:=⟨by simp[tg],by simp[tg],by simp[tg]⟩;have yB:lW (fV tg 0 key [v]):=vu jJ sQ (by simp[tg]) (by simp[tg]) (by simp);have hok:=wI (n:=tg) h1 [] (key:=key) (v:=v) (by rw[hlf];exact yB) (by simp);have hfb:=TC tg key (by simp[tg]);rw[hfm,hhm]at hfb;simp only[Go.cI.ey.BM,List.getLast?_nil,nG,Go.cI.ey.kT,hlf]at y7 hok;simp[wn];refine ai hfb (by simp[tg]) ?_;simp;refine ai (O' tg 0 key [v] jJ (by simp) rfl (by simp)) (by simp[tg]) ?_;simp;have vv:=Pa t c1 h1 (by omega) root (fV tg 0 key [v]) yB;have hpk:fq (t+16) (bA.put c1 (fV tg 0 key [v])).1:=h1.put (fV tg 0 key [v]);obtain⟨RR,Og⟩:∃RR,bA.put c1 (fV tg 0 key [v])=RR:=⟨_,rfl⟩;rw[Og]at vv y7 hok;obtain⟨S',BN,key',e'⟩:=RR;simp only at vv y7 hok;refine ak (pN 21 [20,33]) vv (by simp) (by simp) (by simp) (by simp) ?_;obtain⟨hF,Kq⟩:∃F,F=(([]:List Step).foldr bA.qM ⟨S',([]:List Int),BN,key',e'⟩):=⟨_,rfl⟩;have y8:R=bA.fW root 0 false hF:=by rw[Kq];exact y7
   have gs:R.s=(bA.fW root 0 false hF).s:=(congrArg nS.s y8).trans (fN root _ _ hF).1;have gr:R.root=(bA.fW root 0 false hF).root:=(congrArg nS.root y8).trans (fN root _ _ hF).2.1;have ge:R.e=(bA.fW root 0 false hF).e:=(congrArg nS.e y8).trans (fN root _ _ hF).2.2.1;have gw:R.was=if R.e=0 then 0 else 0:=by rw[ge];exact(congrArg nS.was y8).trans (fN root _ _ hF).2.2.2.1
   have gh:R.had=if R.e=0 then false else false:=by rw[ge];exact(congrArg nS.had y8).trans (fN root _ _ hF).2.2.2.2
   by_cases c4:e'=0
   ·subst c4;have BO:=Kr (t+16) 1 root ⟨S',([]:List Int),BN,key',0⟩ hok rfl ([]:List Step) (by simp) (by first|omega|simp) (by omega) (by omega);simp only at BO;rw[<-Kq,<-ge,<-gs,<-gr]at BO;simp;refine ak (pN 36 [20,33,35]) BO (by simp) (by simp) (by simp) (by simp) ?_;by_cases c5:R.e=0
    ·rw[if_pos c5]at gw gh;rw[gw,gh];simp[-aD,c5,Tryz.results150];exact⟨cL 21 48 [],by simp⟩
    ·rw[if_neg c5]at gw gh;rw[gw,gh];have pP:(R.e !=0)=true:=by simpa using c5
     simp[-aD,pP,Tryz.results150];exact⟨cL 21 48 [],by simp⟩
   ·have hfe:R=⟨S',root,0,false,e'⟩:=by
     rw[y8,Kq,jo (by exact c4)];unfold Go.cI.ey.fW;rw[if_neg c4]
    rw[hfe];have jU:(e' !=0)=true:=by simpa using c4
    have Ks:(e'==0)=false:=by simpa using c4
    simp[-aD,jU,Ks,Tryz.results150];exact⟨cL 21 36 [],by simp⟩
  ·rw[List.concat_eq_append]at y7 hst⊢;obtain⟨jJ,hx,hxp,amC⟩:=hst l x rfl;have w1:IntKind.i64.wrap ((l.length:Int)+1-1)=(l.length:Int):=by rw[af (by omega) (by omega)];omega
   have w2:IntKind.i64.wrap (l.length:Int)=(l.length:Int):=af (by omega) (by omega);have tk:List.take l.length (l.map wJ++[wJ x])=l.map wJ:=List.take_left' (by simp);simp[w2,tk];refine⟨by intro y hy;rcases hy with⟨a,_,rfl⟩|rfl<;>rfl,?_⟩;refine ai (TC x.n key (by have:=(jK hx).ks;omega)) (by simp) ?_;have hx4:=hx.len;have hxv:x.n.vs.length<=100:=by have:=hx.form;split at this<;>omega
   by_cases ch:rq x.n key=true
   ·obtain⟨G7,hfk⟩:=DY ch;have hfv:bY x.n key<x.n.vs.length:=by have:=hx.form;omega
    have hgx:DX x key=(x.n.vs[bY x.n key],true):=by
     unfold DX;rw[if_pos ch,List.getD_eq_getElem?_getD,List.getElem?_eq_getElem hfv];rfl
    obtain⟨hrf,oe,hrl⟩:=VR hx G7;have Kt:(lV x.n (bY x.n key)).vs.length<=100:=by simp[lV];omega
    have yB:=vu (i:=bY x.n key) (us:=[v]) oe sQ (by omega) Kt (by simp);have hlf:iG x.n key v=fV (lV x.n (bY x.n key)) (bY x.n key) key [v]:=by unfold iG;rw[if_pos ch]
    have hok:=wI (n:=x.n) h1 [x.p] (key:=key) (v:=v) (by rw[hlf];exact yB) (by simp);simp only[Go.cI.ey.BM,nG,List.getLast?_concat,List.dropLast_concat,Go.cI.ey.kT,hlf,hgx]at y7 hok;simp[ch,hfv];refine ai (amD x.n (bY x.n key) (jK hx) (wL hx) G7) (by simp) ?_;simp;refine ai (O' (lV x.n (bY x.n key)) (bY x.n key) key [v] oe (by simp) hrf (by omega)) (by simp) ?_;simp;have vv:=wM t c1 h1 (by omega) root [x.p] (fV (lV x.n (bY x.n key)) (bY x.n key) key [v]) yB;have hpk:fq (t+16) (bA.put c1 (fV (lV x.n (bY x.n key)) (bY x.n key) key [v])).1:=h1.put (fV (lV x.n (bY x.n key)) (bY x.n key) key [v]);obtain⟨RR,Og⟩:∃RR,bA.put c1 (fV (lV x.n (bY x.n key)) (bY x.n key) key [v])=RR:=⟨_,rfl⟩;rw[Og]at vv y7 hok;obtain⟨S',BN,key',e'⟩:=RR;simp only at vv y7 hok;refine ak (pN 21 [20,33,35]) vv (by simp) (by simp) (by simp) (by simp) ?_;obtain⟨hF,Kq⟩:∃F,F=(l.foldr bA.qM ⟨S',[x.p],BN,key',e'⟩):=⟨_,rfl⟩;have y8:R=bA.fW root x.n.vs[bY x.n key] true hF:=by rw[Kq];exact y7
    have gs:R.s=(bA.fW root 0 false hF).s:=(congrArg nS.s y8).trans (fN root _ _ hF).1;have gr:R.root=(bA.fW root 0 false hF).root:=(congrArg nS.root y8).trans (fN root _ _ hF).2.1;have ge:R.e=(bA.fW root 0 false hF).e:=(congrArg nS.e y8).trans (fN root _ _ hF).2.2.1;have gw:R.was=if R.e=0 then x.n.vs[bY x.n key]else 0:=by rw[ge];exact(congrArg nS.was y8).trans (fN root _ _ hF).2.2.2.1
    have gh:R.had=if R.e=0 then true else false:=by rw[ge];exact(congrArg nS.had y8).trans (fN root _ _ hF).2.2.2.2
    by_cases c4:e'=0
    ·subst c4;have BO:=Kr (t+16) 1 root ⟨S',[x.p],BN,key',0⟩ hok rfl l jJ (by first|omega|simp) (by omega) (by omega);simp only at BO;rw[<-Kq,<-ge,<-gs,<-gr]at BO;simp;refine ak (pN 36 [20,33,35]) BO (by simp) (by simp) (by simp) (by simp) ?_;by_cases c5:R.e=0
     ·rw[if_pos c5]at gw gh;rw[gw,gh];simp[-aD,c5,Tryz.results150];exact⟨cL 21 48 [],by simp⟩
     ·rw[if_neg c5]at gw gh;rw[gw,gh];have pP:(R.e !=0)=true:=by simpa using c5
      simp[-aD,pP,Tryz.results150];exact⟨cL 21 48 [],by simp⟩
    ·have hfe:R=⟨S',root,0,false,e'⟩:=by
      rw[y8,Kq,jo (by exact c4)];unfold Go.cI.ey.fW;rw[if_neg c4]
     rw[hfe];have jU:(e' !=0)=true:=by simpa using c4
     have Ks:(e'==0)=false:=by simpa using c4
     simp[-aD,jU,Ks,Tryz.results150];exact⟨cL 21 36 [],by simp⟩
   ·have ch':rq x.n key=false:=by simpa using ch
    have hgx:DX x key=(0,false):=by unfold DX;rw[if_neg ch]
    have yB:=vu (i:=bY x.n key) (us:=[v]) (jK hx) sQ (by omega) hxv (by simp);have hlf:iG x.n key v=fV x.n (bY x.n key) key [v]:=by unfold iG;rw[if_neg ch]
    have hok:=wI (n:=x.n) h1 [x.p] (key:=key) (v:=v) (by rw[hlf];exact yB) (by simp);simp only[Go.cI.ey.BM,nG,List.getLast?_concat,List.dropLast_concat,Go.cI.ey.kT,hlf,hgx]at y7 hok;simp[ch'];refine ai (O' x.n (bY x.n key) key [v] (jK hx) (by simp) (wL hx) (ru _ _)) (by simp) ?_;simp;have vv:=wM t c1 h1 (by omega) root [x.p] (fV x.n (bY x.n key) key [v]) yB;have hpk:fq (t+16) (bA.put c1 (fV x.n (bY x.n key) key [v])).1:=h1.put (fV x.n (bY x.n key) key [v]);obtain⟨RR,Og⟩:∃RR,bA.put c1 (fV x.n (bY x.n key) key [v])=RR:=⟨_,rfl⟩;rw[Og]at vv y7 hok;obtain⟨S',BN,key',e'⟩:=RR;simp only at vv y7 hok;refine ak (pN 21 [20,33,35]) vv (by simp) (by simp) (by simp) (by simp) ?_;obtain⟨hF,Kq⟩:∃F,F=(l.foldr bA.qM ⟨S',[x.p],BN,key',e'⟩):=⟨_,rfl⟩;have y8:R=bA.fW root 0 false hF:=by rw[Kq];exact y7
    have gs:R.s=(bA.fW root 0 false hF).s:=(congrArg nS.s y8).trans (fN root _ _ hF).1;have gr:R.root=(bA.fW root 0 false hF).root:=(congrArg nS.root y8).trans (fN root _ _ hF).2.1;have ge:R.e=(bA.fW root 0 false hF).e:=(congrArg nS.e y8).trans (fN root _ _ hF).2.2.1;have gw:R.was=if R.e=0 then 0 else 0:=by rw[ge];exact(congrArg nS.was y8).trans (fN root _ _ hF).2.2.2.1
    have gh:R.had=if R.e=0 then false else false:=by rw[ge];exact(congrArg nS.had y8).trans (fN root _ _ hF).2.2.2.2
    by_cases c4:e'=0
    ·subst c4;have BO:=Kr (t+16) 1 root ⟨S',[x.p],BN,key',0⟩ hok rfl l jJ (by first|omega|simp) (by omega) (by omega);simp only at BO;rw[<-Kq,<-ge,<-gs,<-gr]at BO;simp;refine ak (pN 36 [20,33,35]) BO (by simp) (by simp) (by simp) (by simp) ?_;by_cases c5:R.e=0
     ·rw[if_pos c5]at gw gh;rw[gw,gh];simp[-aD,c5,Tryz.results150];exact⟨cL 21 48 [],by simp⟩
     ·rw[if_neg c5]at gw gh;rw[gw,gh];have pP:(R.e !=0)=true:=by simpa using c5
      simp[-aD,pP,Tryz.results150];exact⟨cL 21 48 [],by simp⟩
    ·have hfe:R=⟨S',root,0,false,e'⟩:=by
      rw[y8,Kq,jo (by exact c4)];unfold Go.cI.ey.fW;rw[if_neg c4]
     rw[hfe];have jU:(e' !=0)=true:=by simpa using c4
     have Ks:(e'==0)=false:=by simpa using c4
     simp[-aD,jU,Ks,Tryz.results150];exact⟨cL 21 36 [],by simp⟩
 ·have dX:(e !=0)=true:=by simpa using c2
  rw[if_neg c2]at y7;rw[y7];simp[-aD,dX,Tryz.results150];exact⟨cL 21 21 [],by simp⟩
end Go.Av
namespace Go.cI.ey
theorem vN{σ:Type}{g:σ->Int->List Int->σ×List Int×Int}{s s':σ}{a b:List Int}{p:Int}{l:List Int}(h:j9 g (p::l) s a=(s',b,0)):(g s p a).2.2=0/\j9 g l (g s p a).1 (g s p a).2.1=(s',b,0):=by
 unfold j9 at h;split at h
 ·rename_i h0;exact⟨h0,h⟩
 ·rename_i h0;exact absurd (congrArg (fun x=>x.2.2) h) h0
theorem kQ{σ:Type}{g:σ->Int->List Int->σ×List Int×Int}(hg:∀s p a,(g s p a).2.2=0->a.length<=(g s p a).2.1.length):∀(l:List Int) {s s':σ} {a b:List Int},j9 g l s a=(s',b,0)->a.length<=b.length
 |[],s,s',a,b,h=>by unfold j9 at h;injection h with _ h;injection h with h _;rw[h];exact Nat.le_refl _
 |p::l,s,s',a,b,h=>by
  obtain⟨h1,h2⟩:=vN h;exact Nat.le_trans (hg s p a h1) (kQ hg l h2)
theorem jF{σ:Type}(I:ey σ):∀(f:Nat) (s:σ) (p:Int) (out:List Int),(I.fK f s p out).2.2=0->out.length<=(I.fK f s p out).2.1.length
 |0,s,p,out,h=>by simp[fK]at h
 |f+1,s,p,out,h=>by
  unfold fK at h⊢;split at h
  ·rename_i h0;rw[if_pos h0];split at h
   ·rename_i h1;rw[if_pos h1];simp
   ·rename_i h1;rw[if_neg h1];have:=kQ (fun s p a=>jF I f s p a) (I.tl s p).2.1.vs (s:=(I.tl s p).1) (a:=out++[p]) (b:=(j9 (I.fK f) (I.tl s p).2.1.vs (I.tl s p).1 (out++[p])).2.1) (Prod.ext rfl (Prod.ext rfl h));simp at this;omega
  ·rename_i h0;exact absurd h h0
end Go.cI.ey
namespace Go.aW
open Go.cI.ey
theorem yP{t:Nat}{g:Cs->Int->List Int->Cs×List Int×Int}(hg:∀c p a,fq t c->fq t (g c p a).1):∀(l:List Int) (c:Cs) (a:List Int),fq t c->fq t (j9 g l c a).1
 |[],c,a,h=>h
 |p::l,c,a,h=>by
  unfold j9;split
  ·exact yP hg l _ _ (hg c p a h)
  ·exact hg c p a h
theorem qa{t:Nat}:∀(f:Nat) (c:Cs) (p:Int) (out:List Int),fq t c->fq t (bA.fK f c p out).1
 |0,c,p,out,h=>h
 |f+1,c,p,out,h=>by
  unfold fK;split
  ·split
   ·exact h.tl p
   ·exact yP (fun c p a hc=>qa f c p a hc) _ _ _ (h.tl p)
  ·exact h.tl p
end Go.aW
namespace Go.Av
open Go.Proofs Go.aW
open Go.cI (Nd rB l_ Right jS)
open Go.cI.ey (j9 vN kQ jF)
theorem JE(t:Nat)(root:Int):∀(f d:Nat) (aG:Int) (c c':Cs) (out out':List Int),fq t c->jT aG->d+f=40->bA.fK f c aG out=(c',out',0)->out'.length<=1000000000->aI Tryz.prog 262 [.obj 20 0,.p (.int aG),.p (.int d),.own 21 (out.map PC.int)] ⟨jf.B 0 8 c++[(20,cJ root)],jG 8++[(21,3,1)],22⟩ (.agg true [.own 34 (out'.map PC.int),.p (.int 0)]) ⟨jf.B 0 22 c'++[(20,cJ root)],jG 22++[(34,3,1)],35⟩:=by
 intro f
 induction f with
 |zero=>intro d aG c c' out out' _ _ _ hm _;simp[Go.cI.ey.fK]at hm
 |succ f ih=>
 intro d aG c c' out out' h hp hd hm hlen;have hl:=vo t c h root aG hp;have hcs:=og c aG;have hok:=h.tl aG;unfold Go.cI.ey.fK at hm;obtain⟨R,hR⟩:∃R,bA.tl c aG=R:=⟨_,rfl⟩;rw[hR]at hl hcs hm hok;obtain⟨c1,n,e⟩:=R;simp only at hl hcs hm hok;refine QgQ (rs:=[_,_]) [] [] [] Tryz.func262 rfl (by simp[Tryz.ntmps262]) ?_;have DC:¬(40:Int)<=(d:Int):=by omega
 simp[cJ,DC];refine ak (pN 8 [20]) hl (by simp) (by simp) (by simp) (by simp) ?_;rcases hcs with⟨rfl,d2⟩|⟨rfl,d2⟩
 ·rw[if_pos rfl]at hm;by_cases c2:n.lf=true
  ·rw[if_pos c2]at hm;injection hm with Oz hm;injection hm with hm _;subst Oz;subst hm;simp at hlen;simp[-aD,c2,Tryz.results262];exact⟨by omega,by omega,[(34,35)],by simp⟩
  ·have dX:n.lf=false:=by simpa using c2
   rw[if_neg c2]at hm;have hmono:=kQ (fun s p a=>jF bA f s p a) n.vs hm;simp only[List.length_append,List.length_cons,List.length_nil]at hmono;have hvl:=d2.form;have sQ:=d2.len;have hv5:n.vs.length<=5:=by rw[hvl];split<;>omega
   have wd:IntKind.i64.wrap ((d:Int)+1)=((d+1:Nat):Int):=by rw[af (by omega) (by omega)];rfl
   simp[dX];refine⟨by omega,by omega,?_⟩;refine aN (fun y:Nat×Cs×List Int=>y.1<=n.vs.length/\fq t y.2.1/\j9 (bA.fK f) (n.vs.drop y.1) y.2.1 y.2.2=(c',out',0)) (fun y=>[(0,.obj 20 0),(2,.p (.int d)),(3,.own 34 (y.2.2.map PC.int)),(33,.p (.sl (n.vs.map PC.int))),(34,.p (.int n.vs.length)),(35,.p (.int y.1))]) (fun y=>⟨jf.B 0 22 y.2.1++[(20,cJ root)],jG 22++[(34,3,1)],35⟩) (fun y=>n.vs.length-y.1) (0,c1,out++[aG]) ⟨by simp,hok,by simpa using hm⟩ _ (AS.le_refl _ _) (aE [(34,35)] (by simp)) ?_;rintro⟨k,cc,cur⟩ ⟨g1,g0,g2⟩;simp only at g1 g0 g2;by_cases c3:k<n.vs.length
   ·rw[List.drop_eq_getElem_cons c3]at g2;obtain⟨g3,g4⟩:=vN g2;have vO:=jF bA f cc n.vs[k] cur g3;have hnext:=kQ (fun s p a=>jF bA f s p a) _ g4;have oh:=d2.vals n.vs[k] (List.getElem_mem c3);have JF:=qa f cc n.vs[k] cur g0;have wk:IntKind.i64.wrap ((k:Int)+1)=((k+1:Nat):Int):=by rw[af (by omega) (by omega)];rfl
    have hi:=ih (d+1) n.vs[k] cc (bA.fK f cc n.vs[k] cur).1 cur (bA.fK f cc n.vs[k] cur).2.1 g0 ⟨by have:=oh.1;omega,by have:=oh.2;omega⟩ (by omega) (Prod.ext rfl (Prod.ext rfl g3)) (by omega);obtain⟨Q,hQ⟩:∃Q,bA.fK f cc n.vs[k] cur=Q:=⟨_,rfl⟩;rw[hQ]at hi g4 JF;simp[c3,wd,cJ];refine ak (pN 22 [20,34]) hi (by simp) (by simp) (by simp) (by simp) ?_;simp[wk];exact⟨k+1,Q.1,Q.2.1,⟨by omega,JF,g4⟩,by omega,aE (cL 22 35 [(34,47)]) (by simp)⟩
   ·have e:k=n.vs.length:=by omega
    subst e;rw[List.drop_length]at g2;unfold j9 at g2;injection g2 with g2 g3;injection g3 with g3 _;subst g2;subst g3;simp[-aD,Tryz.results262];exact⟨[],by simp⟩
 ·exfalso;rw[if_neg d2]at hm;have:=congrArg (fun x=>x.2.2) hm;exact d2 this
theorem Bv{P:Program}{f:FuncId}{r:AV}{aO:Tb}{pre post:List AV}{xs:List PC}{el sz:Nat}{bx:List (Nat×Ob)}{rw:List (Nat×TypeId×Nat)}{nx:Nat}(h:aI P f (pre++ .own nx xs::post) ⟨bx,(nx,el,sz)::rw,nx+1⟩ r aO):aI P f (pre++ .full xs::post) ⟨bx,rw,nx⟩ r aO:=by
 refine⟨h.1,fun g w vs F hw hvs=>?_⟩;obtain⟨us,ws,rfl,hu,Vm⟩:=aL.split pre hvs;cases Vm with
 |cons h1 hs=>
  cases h1 with
  |full hr=>
   rename_i a n;have hle:=hw.vP (.slice a n n);refine(h.2 _ w _ F (hw.qb el sz a n) ((hu.mono hle).append (.cons (.own (by simp[G.cX]) (hr.mono hle.M)) (hs.mono hle)))).mono ?_;rintro e w' ⟨v,g',rfl,h2,h3,h4⟩;exact⟨v,g',rfl,hle.trans h2,h3,h4⟩
theorem JG(t:Nat)(c c':Cs)(h:fq t c)(root:Int)(hroot:jT root)(l:List Int)(hl:bA.pages c root=(c',l,0))(hlen:l.length<=1000000000):aI Tryz.prog 172 [.obj 20 0] ⟨jf.B 0 8 c++[(20,cJ root)],jG 8,21⟩ (.agg true [.p (.sl (l.map PC.int)),.p (.int 0)]) ⟨jf.B 0 21 c'++[(20,cJ root)],jG 21,33⟩:=by
 refine QgQ (rs:=[_,_]) [] [(3,[(4,.r 1),(5,.w [])])] [(1,20)] Tryz.func172 rfl (by simp[Tryz.ntmps172]) ?_;unfold Go.cI.ey.pages at hl;by_cases c0:root=0
 ·rw[if_pos c0]at hl;injection hl with pR hl;injection hl with hl _;subst pR;subst hl;subst c0;simp[-aD,cJ,Tryz.results172];exact⟨cL 21 8 [],by simp⟩
 ·rw[if_neg c0]at hl;have OA:(root==0)=false:=by simpa using c0
  have hp:=JE t root 40 0 root c c' [] l h hroot (by omega) hl hlen;have N7:=Bv (pre:=[.obj 20 0,.p (.int root),.p (.int ((0:Nat):Int))]) (post:=[]) (nx:=21) (el:=3) (sz:=1) (bx:=jf.B 0 8 c++[(20,cJ root)]) (rw:=jG 8) (zU hp (by simp) (by simp) rfl);simp[cJ,OA];refine ak (pN 8 [20]) N7 (by simp) (by simp) (by simp) (by simp) ?_;simp[-aD,Tryz.results172];exact⟨cL 21 22 [],by simp⟩
end Go.Av
namespace Go.cI.ey
theorem qF(aM:Key)(most:Int)(l out:je):out.length<=(mC aM most l out).length:=by rw[zf];unfold Az;simp
theorem nk{σ:Type}{g:σ->Int->je->σ×je×Int}{most:Int}(hg:∀s p a,(g s p a).2.2=0->a.length<=(g s p a).2.1.length):∀(l:List Int) {s s':σ} {a b:je},foldM g most l s a=(s',b,0)->a.length<=b.length
 |[],s,s',a,b,h=>by unfold foldM at h;injection h with _ h;injection h with h _;rw[h];exact Nat.le_refl _
 |p::l,s,s',a,b,h=>by
  unfold foldM at h;split at h
  ·split at h
   ·rename_i h1;exact Nat.le_trans (hg s p a h1) (nk hg l h)
   ·rename_i h1;exact absurd (congrArg (fun x=>x.2.2) h) h1
  ·injection h with _ h;injection h with h _;rw[h];exact Nat.le_refl _
theorem lS{σ:Type}(I:ey σ)(aM:Key)(most:Int):∀(f:Nat) (s:σ) (p:Int) (out:je),(I.eV aM most f s p out).2.2=0->out.length<=(I.eV aM most f s p out).2.1.length
 |0,s,p,out,h=>by simp[eV]at h
 |f+1,s,p,out,h=>by
  unfold eV at h⊢;split at h
  ·rename_i h0;rw[if_pos h0];split at h
   ·rename_i h1;rw[if_pos h1];exact qF _ _ _ _
   ·rename_i h1;rw[if_neg h1];exact nk (fun s p a=>lS I aM most f s p a) _ (s:=(I.tl s p).1) (b:=(foldM (I.eV aM most f) most ((I.tl s p).2.1.vs.drop (dm (I.tl s p).2.1 aM)) (I.tl s p).1 out).2.1) (Prod.ext rfl (Prod.ext rfl h))
  ·rename_i h0;exact absurd h h0
end Go.cI.ey
namespace Go.aW
open Go.cI.ey
open Go.cI (Key je)
theorem zL{t:Nat}{g:Cs->Int->je->Cs×je×Int}{most:Int}(hg:∀c p a,fq t c->fq t (g c p a).1):∀(l:List Int) (c:Cs) (a:je),fq t c->fq t (foldM g most l c a).1
 |[],c,a,h=>h
 |p::l,c,a,h=>by
  unfold foldM;split
  ·split
   ·exact zL hg l _ _ (hg c p a h)
   ·exact hg c p a h
  ·exact h
theorem yh{t:Nat}(aM:Key)(most:Int):∀(f:Nat) (c:Cs) (p:Int) (out:je),fq t c->fq t (bA.eV aM most f c p out).1
 |0,c,p,out,h=>h
 |f+1,c,p,out,h=>by
  unfold eV;split
  ·split
   ·exact h.tl p
   ·exact zL (fun c p a hc=>yh aM most f c p a hc) _ _ _ (h.tl p)
  ·exact h.tl p
end Go.aW
namespace Go.Av
open Go.Proofs Go.aW
open Go.cI (Nd rB l_ Right jS Key je mC dm mI)
open Go.cI.ey (foldM nk lS qF)
theorem Zb{l:je}:∀(x:PC) (a:Key) (b:Int),(a,b)∈l->itP (a,b)=x->x.width=2:=by rintro x a b _ rfl;rfl
theorem I2{n:Nd}{out:je}{aM:Key}{most:Int}{k:Nat}(hk:k<n.ks.length)(hv:k<n.vs.length):mC aM most ((n.ks.zip n.vs).drop k) out=mC aM most ((n.ks.zip n.vs).drop (k+1)) (if !Op.bytesLess n.ks[k] aM&&decide ((out.length:Int)<most)then out++[(n.ks[k],n.vs[k])]else out):=by
 have hz:k<(n.ks.zip n.vs).length:=by simp;omega
 have e:(n.ks.zip n.vs).drop k=(n.ks[k],n.vs[k])::(n.ks.zip n.vs).drop (k+1):=by
  rw[List.drop_eq_getElem_cons hz];simp
 rw[e]
 conv=>lhs;unfold mC
theorem NJ(t:Nat)(root:Int)(aM:Key)(most:Int):∀(f d:Nat) (aG:Int) (c c':Cs) (out out':je),fq t c->jT aG->d+f=40->bA.eV aM most f c aG out=(c',out',0)->out'.length<=1000000000->aI Tryz.prog 266 [.obj 20 0,.p (.int aG),.p (.int d),.p (.str aM),.p (.int most),.own 21 (out.map itP)] ⟨jf.B 0 8 c++[(20,cJ root)],jG 8++[(21,286,2)],22⟩ (.agg true [.own 34 (out'.map itP),.p (.int 0)]) ⟨jf.B 0 22 c'++[(20,cJ root)],jG 22++[(34,286,2)],35⟩:=by
 intro f
 induction f with
 |zero=>intro d aG c c' out out' _ _ _ hm _;simp[Go.cI.ey.eV]at hm
 |succ f ih=>
 intro d aG c c' out out' h hp hd hm hlen;have hl:=vo t c h root aG hp;have hcs:=og c aG;have hok:=h.tl aG;unfold Go.cI.ey.eV at hm;obtain⟨R,hR⟩:∃R,bA.tl c aG=R:=⟨_,rfl⟩;rw[hR]at hl hcs hm hok;obtain⟨c1,n,e⟩:=R;simp only at hl hcs hm hok;refine QgQ (rs:=[_,_]) [] [] [] Tryz.func266 rfl (by simp[Tryz.ntmps266]) ?_;have DC:¬(40:Int)<=(d:Int):=by omega
 simp[cJ,DC];refine ak (pN 8 [20]) hl (by simp) (by simp) (by simp) (by simp) ?_;rcases hcs with⟨rfl,d2⟩|⟨rfl,d2⟩
 ·rw[if_pos rfl]at hm;have hvl:=d2.form;have sQ:=d2.len;by_cases c2:n.lf=true
  ·rw[if_pos c2]at hm;injection hm with Oz hm;injection hm with hm _;subst Oz;rw[c2]at hvl;simp only[if_true,Nat.add_zero]at hvl;simp[c2];refine aN (fun y:Nat×je=>y.1<=n.ks.length/\mC aM most ((n.ks.zip n.vs).drop y.1) y.2=out') (fun y=>[(3,.p (.str aM)),(4,.p (.int most)),(5,.own 34 (y.2.map itP)),(14,.obj 35 0),(33,.p (.sl (n.ks.map PC.str))),(34,.p (.int n.ks.length)),(35,.p (.int y.1))]) (fun y=>⟨jf.B 0 22 c1++[(20,cJ root),(35,⟨341,3,[.p (.bool true),.p (.sl (n.ks.map PC.str)),.p (.sl (n.vs.map PC.int))]⟩)],jG 22++[(34,286,2)],36⟩) (fun y=>n.ks.length-y.1) (0,out) ⟨by simp,by simpa using hm⟩ _ (AS.le_refl _ _) (aE [(34,21),(35,34)] (by simp)) ?_;rintro⟨k,cur⟩ ⟨g1,g2⟩;simp only at g1 g2;by_cases c3:k<n.ks.length
   ·have c3v:k<n.vs.length:=by omega
    rw[I2 c3 c3v]at g2;have hmo:=qF aM most ((n.ks.zip n.vs).drop (k+1)) (if !Op.bytesLess n.ks[k] aM&&decide ((cur.length:Int)<most)then cur++[(n.ks[k],n.vs[k])]else cur);rw[g2]at hmo;have wk:IntKind.i64.wrap ((k:Int)+1)=((k+1:Nat):Int):=by rw[af (by omega) (by omega)];rfl
    by_cases c4:Op.bytesLess n.ks[k] aM=true
    ·simp[c4]at g2;simp[c3,c4,wk];exact⟨k+1,cur,⟨by omega,g2⟩,by omega,aA (by simp)⟩
    ·have jU:Op.bytesLess n.ks[k] aM=false:=by simpa using c4
     by_cases c5:(cur.length:Int)<most
     ·simp[jU,c5]at g2 hmo;simp[c3,c3v,jU,c5,wk];exact⟨Zb,by omega,by omega,k+1,cur++[(n.ks[k],n.vs[k])],⟨by omega,g2⟩,by omega,aE [(34,36)] (by simp)⟩
     ·simp[jU,c5]at g2;simp[c3,jU,c5,wk];exact⟨k+1,cur,⟨by omega,g2⟩,by omega,aA (by simp)⟩
   ·have e:k=n.ks.length:=by omega
    subst e;rw[List.drop_of_length_le (by simp;omega)]at g2;unfold mC at g2;subst g2;simp[-aD,Tryz.results266];exact⟨[],by simp⟩
  ·have dX:n.lf=false:=Bool.eq_false_iff.2 c2;rw[if_neg c2]at hm;have aoa:=Lx n aM (by omega);have gR:=mI n aM;rw[dX]at hvl;simp only[Bool.false_eq_true,if_false]at hvl;have wd:IntKind.i64.wrap ((d:Int)+1)=((d+1:Nat):Int):=by rw[af (by omega) (by omega)];rfl
   simp[dX];refine ai aoa (by simp[dX]) ?_;simp;refine aN (fun y:Nat×Cs×je=>y.1<=n.vs.length/\fq t y.2.1/\foldM (bA.eV aM most f) most (n.vs.drop y.1) y.2.1 y.2.2=(c',out',0)) (fun y=>[(0,.obj 20 0),(2,.p (.int d)),(3,.p (.str aM)),(4,.p (.int most)),(5,.own 34 (y.2.2.map itP)),(14,.obj 35 0),(18,.p (.int y.1))]) (fun y=>⟨jf.B 0 22 y.2.1++[(20,cJ root),(35,⟨341,3,[.p (.bool false),.p (.sl (n.ks.map PC.str)),.p (.sl (n.vs.map PC.int))]⟩)],jG 22++[(34,286,2)],36⟩) (fun y=>n.vs.length-y.1) (dm n aM,c1,out) ⟨by simp;omega,hok,hm⟩ _ (AS.le_refl _ _) (aE [(34,21),(35,34)] (by simp)) ?_;rintro⟨k,cc,cur⟩ ⟨g1,g0,g2⟩;simp only at g1 g0 g2;by_cases c3:k<n.vs.length
   ·rw[List.drop_eq_getElem_cons c3]at g2;by_cases c5:(cur.length:Int)<most
    ·unfold foldM at g2;rw[if_pos c5]at g2;have g3:(bA.eV aM most f cc n.vs[k] cur).2.2=0:=by
      by_cases g3:(bA.eV aM most f cc n.vs[k] cur).2.2=0
      ·exact g3
      ·rw[if_neg g3]at g2;exact absurd (congrArg (fun x=>x.2.2) g2) g3
     rw[if_pos g3]at g2;have vO:=lS bA aM most f cc n.vs[k] cur g3;have hnext:=nk (fun s p a=>lS bA aM most f s p a) _ g2;have oh:=d2.vals n.vs[k] (List.getElem_mem c3);have JF:=yh aM most f cc n.vs[k] cur g0;have wk:IntKind.i64.wrap ((k:Int)+1)=((k+1:Nat):Int):=by rw[af (by omega) (by omega)];rfl
     have hi:=ih (d+1) n.vs[k] cc (bA.eV aM most f cc n.vs[k] cur).1 cur (bA.eV aM most f cc n.vs[k] cur).2.1 g0 ⟨by have:=oh.1;omega,by have:=oh.2;omega⟩ (by omega) (Prod.ext rfl (Prod.ext rfl g3)) (by omega);obtain⟨Q,hQ⟩:∃Q,bA.eV aM most f cc n.vs[k] cur=Q:=⟨_,rfl⟩;rw[hQ]at hi g2 JF;simp[c3,c5,wd,cJ];refine ak (pN 22 [20,34]) hi (by simp) (by simp) (by simp) (by simp) ?_;simp[wk];exact⟨k+1,Q.1,Q.2.1,⟨by omega,JF,g2⟩,by omega,aE (cL 22 36 [(34,48)]) (by simp)⟩
    ·unfold foldM at g2;rw[if_neg c5]at g2;injection g2 with g2 g3;injection g3 with g3 _;subst g2;subst g3;simp[-aD,c3,c5,Tryz.results266];exact⟨[],by simp⟩
   ·have e:k=n.vs.length:=by omega
    subst e;rw[List.drop_length]at g2;unfold foldM at g2;injection g2 with g2 g3;injection g3 with g3 _;subst g2;subst g3;simp[-aD,Tryz.results266];exact⟨[],by simp⟩
 ·exfalso;rw[if_neg d2]at hm;exact d2 (congrArg (fun x=>x.2.2) hm)
theorem PG(t:Nat)(c c':Cs)(h:fq t c)(root:Int)(hroot:jT root)(aM:Key)(most:Int)(l:je)(hl:bA.scan c root aM most=(c',l,0))(hlen:l.length<=1000000000):aI Tryz.prog 174 [.obj 20 0,.p (.str aM),.p (.int most)] ⟨jf.B 0 8 c++[(20,cJ root)],jG 8,21⟩ (.agg true [.p (agY l),.p (.int 0)]) ⟨jf.B 0 21 c'++[(20,cJ root)],jG 21,33⟩:=by
 refine QgQ (rs:=[_,_]) [] [] [] Tryz.func174 rfl (by simp[Tryz.ntmps174]) ?_;unfold Go.cI.ey.scan at hl;by_cases c0:root=0
 ·rw[if_pos (.inl c0)]at hl;injection hl with pR hl;injection hl with hl _;subst pR;subst hl;subst c0;simp[-aD,cJ,Tryz.results174];exact⟨cL 21 8 [],by simp⟩
 ·have OA:(root==0)=false:=by simpa using c0
  by_cases cm:most<1
  ·rw[if_pos (.inr cm)]at hl;injection hl with pR hl;injection hl with hl _;subst pR;subst hl;simp[-aD,cJ,OA,cm,Tryz.results174];exact⟨cL 21 8 [],by simp⟩
  ·rw[if_neg (by rintro(h|h);exact c0 h;exact cm h)]at hl;have hp:=NJ t root aM most 40 0 root c c' [] l h hroot (by omega) hl hlen;have N7:=Bv (pre:=[.obj 20 0,.p (.int root),.p (.int ((0:Nat):Int)),.p (.str aM),.p (.int most)]) (post:=[]) (nx:=21) (el:=286) (sz:=2) (bx:=jf.B 0 8 c++[(20,cJ root)]) (rw:=jG 8) (zU hp (by simp) (by simp) rfl);simp[cJ,OA,cm];refine ak (pN 8 [20]) N7 (by simp) (by simp) (by simp) (by simp) ?_;simp[-aD,Tryz.results174];exact⟨cL 21 22 [],by simp⟩
end Go.Av
namespace Go.aW
open Go.Av
open Go.cI (Nd rB l_ Ck dz Key Right)
structure yb(pn:Int)(c:Ck):Prop where
 nd:c.seen.Nodup
 ex:∀p∈c.seen,1<=p/\p<=pn
theorem Y7{pn:Int}{c:Ck}(h:yb pn c)(hp:pn<=4096):c.seen.length<=4096:=by
 have:=Go.cI.uU 4096 h.nd (fun p hp'=>by have:=h.ex p hp';omega);exact this
theorem Nt(c:Cs)(p:Int):(bA.tl c p).1.s.pn=c.s.pn/\((bA.tl c p).2.2=0->1<=p/\p<=c.s.pn):=by
 have h1:(bA.ld c p).1.s.pn=c.s.pn/\((bA.ld c p).2.2=0->1<=p/\p<=c.s.pn):=by
  show(c.ld p).1.s.pn=c.s.pn/\((c.ld p).2.2=0->1<=p/\p<=c.s.pn);unfold Cs.ld;by_cases h:p<1\/c.s.pn<p
  ·rw[if_pos h];simp
  ·rw[if_neg h];have:1<=p/\p<=c.s.pn:=by omega
   split
   ·split<;>exact⟨rfl,fun _=>this⟩
   ·exact⟨rfl,fun _=>this⟩
 unfold Go.cI.ey.tl;split
 ·rename_i h0;split
  ·exact⟨h1.1,fun _=>h1.2 h0⟩
  ·exact⟨h1.1,fun h=>by simp at h⟩
 ·rename_i h0;exact⟨h1.1,fun h=>absurd h h0⟩
structure NI(t:Nat)(pn:Int)(x:Cs×Ck×Int):Prop where
 ok:fq t x.1
 hp:x.1.s.pn=pn
 dep:-1<=x.2.1.dep/\x.2.1.dep<=40
 sn:x.2.2=0->yb pn x.2.1
theorem C1{t:Nat}{pn:Int}{g:Cs->Int->Key->Option Key->Ck->Cs×Ck×Int}(hg:∀s v lo hi c,fq t s->s.s.pn=pn->(-1<=c.dep/\c.dep<=40)->yb pn c->NI t pn (g s v lo hi c)):∀(lo:Key) (ks:List Key) (hi:Option Key) (vs:List Int) (s:Cs) (c:Ck),fq t s->s.s.pn=pn->(-1<=c.dep/\c.dep<=40)->yb pn c->NI t pn (Go.cI.ey.iJ g lo ks hi vs s c)
 |lo,[],hi,[],s,c,h1,h2,h3,h4=>by unfold Go.cI.ey.iJ;exact⟨h1,h2,h3,fun _=>h4⟩
 |lo,[],hi,v::vs,s,c,h1,h2,h3,h4=>by unfold Go.cI.ey.iJ;exact hg _ _ _ _ _ h1 h2 h3 h4
 |lo,k::ks,hi,[],s,c,h1,h2,h3,h4=>by unfold Go.cI.ey.iJ;exact⟨h1,h2,h3,fun _=>h4⟩
 |lo,k::ks,hi,v::vs,s,c,h1,h2,h3,h4=>by
  have hh:=hg s v lo (some k) c h1 h2 h3 h4;unfold Go.cI.ey.iJ;split
  ·rename_i h0;exact C1 hg k ks hi vs _ _ hh.ok hh.hp hh.dep (hh.sn h0)
  ·exact hh
theorem EX{pn:Int}{c:Ck}(h:yb pn c){p:Int}(hp:¬p∈c.seen)(h1:1<=p/\p<=pn)(d:Int):yb pn ⟨c.seen++[p],d⟩:=by
 refine⟨List.nodup_append.2 ⟨h.nd,by simp,fun a ha b hb e=>?_⟩,fun q hq=>?_⟩
 ·rw[List.mem_singleton]at hb;subst hb;subst e;exact hp ha
 ·rcases List.mem_append.1 hq with hq|hq
  ·exact h.ex q hq
  ·rw[List.mem_singleton]at hq;subst hq;exact h1
theorem jL{t:Nat}{pn:Int}:∀(f d:Nat),d+f<=40->∀(s:Cs) (aG:Int) (lo:Key) (hi:Option Key) (c:Ck),fq t s->s.s.pn=pn->(-1<=c.dep/\c.dep<=40)->yb pn c->NI t pn (bA.ez f d s aG lo hi c)
 |0,d,_,s,aG,lo,hi,c,h1,h2,h3,h4=>⟨h1,h2,h3,fun h=>by simp[Go.cI.ey.ez]at h⟩
 |f+1,d,hd,s,aG,lo,hi,c,h1,h2,h3,h4=>by
  unfold Go.cI.ey.ez;split
  ·exact⟨h1,h2,h3,fun h=>by simp at h⟩
  ·rename_i hn;have Ul:¬aG∈c.seen:=fun h=>hn (.inl h);have k1:=h1.tl aG;have k2:=(Nt s aG).1.trans h2;split
   ·rename_i h0;have hb:=(Nt s aG).2 h0;rw[h2]at hb;split
    ·split
     ·split
      ·exact⟨k1,k2,h3,fun h=>by simp at h⟩
      ·exact⟨k1,k2,by simp only;omega,fun _=>EX h4 Ul hb _⟩
     ·exact C1 (fun s v lo hi c a1 a2 a3 a4=>jL f (d+1) (by omega) s v lo hi c a1 a2 a3 a4) _ _ _ _ _ _ k1 k2 h3 (EX h4 Ul hb _)
    ·exact⟨k1,k2,h3,fun h=>by simp at h⟩
   ·rename_i h0;exact⟨k1,k2,h3,fun h=>absurd h h0⟩
end Go.aW
namespace Go.Av
open Go.Proofs Go.aW
open Go.cI (Nd rB l_ Right jS Key Ck dz xd tv ni)
open Go.cI.ey (iJ)
@[reducible]def Jv(q:Nat)(c:Ck):Ob:=⟨374,3,[.obj 20 0,.own q (c.seen.map PC.int),.p (.int c.dep)]⟩
theorem SJ(l:List Int)(p:Int):(l.any fun x=>p==x)=decide (p∈l):=by
 induction l with
 |nil=>rfl
 |cons x l ih=>
  by_cases h:p=x
  ·subst h;simp
  ·have:(p==x)=false:=by simpa using h
   simp[ih,this,h]
theorem Sz(t:Nat)(root pn:Int)(Oa:pn<=4096):∀(f d:Nat) (aG:Int) (lo:Key) (hi:Option Key) (cs:Cs) (c:Ck),fq t cs->cs.s.pn=pn->jT aG->d+f=40->yb pn c->-1<=c.dep->c.dep<=40->aI Tryz.prog 261 [.obj 21 0,.p (.int aG),.p (.int d),.p (.str lo),.p (.str (hi.getD [])),.p (.bool hi.isSome)] ⟨jf.B 0 8 cs++[(20,cJ root),(21,Jv 22 c)],jG 8++[(22,3,1)],23⟩ (.p (.int (bA.ez f d cs aG lo hi c).2.2)) ⟨jf.B 0 23 (bA.ez f d cs aG lo hi c).1++[(20,cJ root),(21,Jv 35 (bA.ez f d cs aG lo hi c).2.1)],jG 23++[(35,3,1)],36⟩:=by
 intro f
 induction f with
 |zero=>
  intro d aG lo hi cs c h hpp hp hd Ea Br hc3;have DC:(40:Int)<=(d:Int):=by omega
  refine QgQ (rs:=[_]) [] [] [] Tryz.func261 rfl (by simp[Tryz.ntmps261]) ?_;simp[-aD,cJ,Jv,DC,Go.cI.ey.ez,Tryz.results261];exact⟨cL 23 8 [(35,22)],by simp⟩
 |succ f ih=>
  intro d aG lo hi cs c h hpp hp hd Ea Br hc3;have DC:¬(40:Int)<=(d:Int):=by omega
  have jJ:=Y7 Ea Oa;have hct:=L4 aG c.seen (by omega);rw[SJ]at hct;obtain⟨RR,Og⟩:∃RR,RR=bA.ez (f+1) d cs aG lo hi c:=⟨_,rfl⟩;rw[<-Og];refine QgQ (rs:=[_]) [] [] [] Tryz.func261 rfl (by simp[Tryz.ntmps261]) ?_;simp[cJ,Jv,DC];refine ai hct (by simp) ?_;by_cases c1:aG∈c.seen
  ·have e:RR=(cs,c,10):=by rw[Og];unfold Go.cI.ey.ez;rw[if_pos (.inl c1)]
   rw[e];simp[-aD,c1,Tryz.results261];exact⟨cL 23 8 [(35,22)],by simp⟩
  by_cases c2:aG<1
  ·have e:RR=(cs,c,10):=by rw[Og];unfold Go.cI.ey.ez;rw[if_pos (.inr c2)]
   rw[e];simp[-aD,c1,c2,Tryz.results261];exact⟨cL 23 8 [(35,22)],by simp⟩
  have hnot:¬(aG∈c.seen\/aG<1):=by rintro(h|h);exact c1 h;exact c2 h
  have hl:=vo t cs h root aG hp;have hcs:=og cs aG;have hok:=h.tl aG;obtain⟨SK,DK⟩:=Nt cs aG;have hM:RR=if(bA.tl cs aG).2.2=0 then(if tv d (bA.tl cs aG).2.1<=(bA.tl cs aG).2.1.ks.length/\xd (bA.tl cs aG).2.1 lo hi=true then
   if(bA.tl cs aG).2.1.lf=true then if 0<=c.dep/\c.dep≠d then((bA.tl cs aG).1,dz c aG,10)else((bA.tl cs aG).1,⟨c.seen++[aG],d⟩,0)
   else iJ (bA.ez f (d+1)) lo (bA.tl cs aG).2.1.ks hi (bA.tl cs aG).2.1.vs (bA.tl cs aG).1 (dz c aG)else((bA.tl cs aG).1,dz c aG,10))else((bA.tl cs aG).1,dz c aG,(bA.tl cs aG).2.2):=by
   rw[Og]
   conv=>lhs;unfold Go.cI.ey.ez
   rw[if_neg hnot]
  obtain⟨R,hR⟩:∃R,bA.tl cs aG=R:=⟨_,rfl⟩;rw[hR]at hl hcs hok SK DK hM;obtain⟨Gu,n,e⟩:=R;simp only at hl hcs hok SK DK hM;simp[c1,c2];refine⟨by omega,by omega,?_⟩;refine ak (pN 8 [20]) hl (by simp) (by simp) (by simp) (by simp) ?_;rcases hcs with⟨rfl,d2⟩|⟨rfl,d2⟩
  ·rw[if_pos rfl]at hM;have U5:yb pn (dz c aG):=EX Ea c1 (by have:=DK rfl;omega) _;have hvl:=d2.form;have sQ:=d2.len;have hfit:=Wv n lo hi (by omega);by_cases c4:n.lf=true
   ·by_cases c5:d=0
    ·subst c5;have pP:(((0:Nat):Int)==0)=true:=rfl;have Nu:tv 0 n=1:=by simp[tv]
     by_cases c6:1<=n.ks.length
     ·have Bq:¬(n.ks.length:Int)<1:=by omega
      cases c7:xd n lo hi with
      |true=>
       rw[c7]at hfit;by_cases c8:0<=c.dep/\c.dep≠(0:Nat)
       ·have e:RR=(Gu,dz c aG,10):=by rw[hM,if_pos ⟨by rw[Nu];exact c6,c7⟩,if_pos c4,if_pos c8]
        have HG:(c.dep !=(0:Int))=true:=by have:=c8.2;simpa using this
        rw[e];simp[c4,Bq];refine ai hfit (by simp[c4]) ?_;simp[-aD,c8.1,HG,dz,Tryz.results261];exact⟨cL 23 24 [(35,23)],by simp⟩
       ·have e:RR=(Gu,⟨c.seen++[aG],(0:Nat)⟩,0):=by rw[hM,if_pos ⟨by rw[Nu];exact c6,c7⟩,if_pos c4,if_neg c8]
        rw[e];simp[c4,Bq];refine ai hfit (by simp[c4]) ?_;by_cases c9:0<=c.dep
        ·have c8e:c.dep=((0:Nat):Int):=Classical.not_not.1 fun h=>c8 ⟨c9,h⟩;have HG:(c.dep !=(0:Int))=false:=by simpa using c8e
         simp[-aD,c9,HG,Tryz.results261];exact⟨cL 23 24 [(35,23)],by simp⟩
        ·simp[-aD,c9,Tryz.results261];exact⟨cL 23 24 [(35,23)],by simp⟩
      |false=>
       rw[c7]at hfit;have e:RR=(Gu,dz c aG,10):=by rw[hM,if_neg (by rw[c7];simp)]
       rw[e];simp[c4,Bq];refine ai hfit (by simp[c4]) ?_;simp[-aD,dz,Tryz.results261];exact⟨cL 23 24 [(35,23)],by simp⟩
     ·have Bq:(n.ks.length:Int)<1:=by omega
      have e:RR=(Gu,dz c aG,10):=by rw[hM,if_neg (fun h=>c6 (Nu▸h.1))]
      rw[e];simp[-aD,c4,Bq,dz,Tryz.results261];exact⟨cL 23 24 [(35,23)],by simp⟩
    ·have pP:((d:Int)==0)=false:=by simp;omega
     have Nu:tv d n=2:=by simp[tv,c4,c5]
     by_cases c6:2<=n.ks.length
     ·have Bq:¬(n.ks.length:Int)<2:=by omega
      cases c7:xd n lo hi with
      |true=>
       rw[c7]at hfit;by_cases c8:0<=c.dep/\c.dep≠(d:Nat)
       ·have e:RR=(Gu,dz c aG,10):=by rw[hM,if_pos ⟨by rw[Nu];exact c6,c7⟩,if_pos c4,if_pos c8]
        have HG:(c.dep !=(d:Int))=true:=by have:=c8.2;simpa using this
        rw[e];simp[c4,pP,Bq];refine ai hfit (by simp[c4]) ?_;simp[-aD,c8.1,HG,dz,Tryz.results261];exact⟨cL 23 24 [(35,23)],by simp⟩
       ·have e:RR=(Gu,⟨c.seen++[aG],(d:Nat)⟩,0):=by rw[hM,if_pos ⟨by rw[Nu];exact c6,c7⟩,if_pos c4,if_neg c8]
        rw[e];simp[c4,pP,Bq];refine ai hfit (by simp[c4]) ?_;by_cases c9:0<=c.dep
        ·have c8e:c.dep=((d:Nat):Int):=Classical.not_not.1 fun h=>c8 ⟨c9,h⟩;have HG:(c.dep !=(d:Int))=false:=by simpa using c8e
         simp[-aD,c9,HG,Tryz.results261];exact⟨cL 23 24 [(35,23)],by simp⟩
        ·simp[-aD,c9,Tryz.results261];exact⟨cL 23 24 [(35,23)],by simp⟩
      |false=>
       rw[c7]at hfit;have e:RR=(Gu,dz c aG,10):=by rw[hM,if_neg (by rw[c7];simp)]
       rw[e];simp[c4,pP,Bq];refine ai hfit (by simp[c4]) ?_;simp[-aD,dz,Tryz.results261];exact⟨cL 23 24 [(35,23)],by simp⟩
     ·have Bq:(n.ks.length:Int)<2:=by omega
      have e:RR=(Gu,dz c aG,10):=by rw[hM,if_neg (fun h=>c6 (Nu▸h.1))]
      rw[e];simp[-aD,c4,pP,Bq,dz,Tryz.results261];exact⟨cL 23 24 [(35,23)],by simp⟩
   ·have jU:n.lf=false:=Bool.eq_false_iff.2 c4;by_cases c5:d=0
    ·subst c5;have pP:(((0:Nat):Int)==0)=true:=rfl;have Nu:tv 0 n=1:=by simp[tv]
     have pR:=d2.inner jU;have c6z:¬(n.ks=[]):=fun h=>by rw[h]at pR;simp at pR
     have c6y:¬(n.ks.length:Int)<1:=by omega
     cases c7:xd n lo hi with
     |false=>
      rw[c7]at hfit;have e:RR=(Gu,dz c aG,10):=by rw[hM,if_neg (by rw[c7];simp)]
      rw[e];simp[jU,c6y];refine ai hfit (by simp[jU]) ?_;simp[-aD,dz,Tryz.results261];exact⟨cL 23 24 [(35,23)],by simp⟩
     |true=>
      rw[c7]at hfit;have e:RR=iJ (bA.ez f (0+1)) lo n.ks hi n.vs Gu (dz c aG):=by rw[hM,if_pos ⟨by rw[Nu];exact pR,c7⟩,if_neg c4]
      simp[jU,c6y];refine ai hfit (by simp[jU]) ?_;simp;rw[jU]at hvl;simp only[Bool.false_eq_true,if_false]at hvl;refine aN (fun y:Nat×Cs×Ck=>y.1<=n.vs.length/\(if y.1=n.vs.length then RR=(y.2.1,y.2.2,0)else RR=iJ (bA.ez f (0+1)) (ni lo n.ks y.1) (n.ks.drop y.1) hi (n.vs.drop y.1) y.2.1 y.2.2)/\yb pn y.2.2/\-1<=y.2.2.dep/\y.2.2.dep<=40/\fq t y.2.1/\y.2.1.s.pn=pn) (fun y=>[(0,.obj 21 0),(2,.p (.int (0:Nat))),(3,.p (.str lo)),(4,.p (.str (hi.getD []))),(5,.p (.bool hi.isSome)),(13,.obj 36 0),(95,.p (.sl (n.vs.map PC.int))),(96,.p (.int n.vs.length)),(97,.p (.int y.1))]) (fun y=>⟨jf.B 0 23 y.2.1++[(20,cJ root),(21,Jv 35 y.2.2),(36,⟨341,3,[.p (.bool false),.p (.sl (n.ks.map PC.str)),.p (.sl (n.vs.map PC.int))]⟩)],jG 23++[(35,3,1)],37⟩) (fun y=>n.vs.length-y.1) (0,Gu,dz c aG) ⟨by simp,by rw[if_neg (by omega)];simpa[ni]using e,U5,Br,hc3,hok,SK.trans hpp⟩ _ (AS.le_refl _ _) (aE (cL 23 24 [(35,23),(36,36)]) (by simp[dz])) ?_;rintro⟨i,cc,cur⟩ ⟨g1,g2,g3,g4,g5,g6,g7⟩;simp only at g1 g2 g3 g4 g5 g6 g7;have wd:IntKind.i64.wrap (((0:Nat):Int)+1)=((0+1:Nat):Int):=by rw[af (by omega) (by omega)];rfl
      have w11:IntKind.i64.wrap 1=1:=by decide
      have wi:IntKind.i64.wrap ((i:Int)+1)=((i+1:Nat):Int):=by rw[af (by omega) (by omega)];rfl
      by_cases c8:i<n.vs.length
      ·rw[if_neg (by omega)]at g2;rw[List.drop_eq_getElem_cons c8]at g2;have oh:=d2.vals n.vs[i] (List.getElem_mem c8);have OO:i<n.ks.length\/i=n.ks.length:=by omega
       rcases OO with hik|hik
       ·have hik':(i:Int)<(n.ks.length:Int):=by omega
        rw[List.drop_eq_getElem_cons hik]at g2;simp only[iJ]at g2;rcases Nat.eq_zero_or_pos i with h0|h0
        ·subst h0;have Kb:ni lo n.ks 0=lo:=rfl;rw[Kb]at g2;have hi':=ih (0+1) n.vs[0] lo (some n.ks[0]) cc cur g6 g7 ⟨by have:=oh.1;omega,by have:=oh.2;omega⟩ (by omega) g3 g4 g5;have hn:=jL (t:=t) (pn:=pn) f (0+1) (by omega) cc n.vs[0] lo (some n.ks[0]) cur g6 g7 ⟨g4,g5⟩ g3;obtain⟨Q,hQ⟩:∃Q,bA.ez f (0+1) cc n.vs[0] lo (some n.ks[0]) cur=Q:=⟨_,rfl⟩;rw[hQ]at hi' hn g2;simp[c8,hik,w11,cJ,Jv];refine ak (pN 23 [20,21,35]) hi' (by simp) (by simp) (by simp) (by simp) ?_;by_cases c9:Q.2.2=0
         ·rw[if_pos c9]at g2;have Nv:=hn.sn c9;have yc:(Q.2.2 !=0)=false:=by simpa using c9
          simp[yc];refine⟨1,Q.1,Q.2.1,⟨by omega,?_,Nv,hn.dep.1,hn.dep.2,hn.ok,hn.hp⟩,by omega,aE (cL 23 37 [(35,49)]) (by simp[w11])⟩;rw[if_neg (by omega),g2];simp[ni,hik]
         ·have yc:(Q.2.2 !=0)=true:=by simpa using c9
          rw[if_neg c9]at g2;rw[g2];simp[-aD,yc,Tryz.results261];exact⟨cL 23 37 [(35,49)],by simp⟩
        ·have wm:IntKind.i64.wrap ((i:Int)-1)=((i-1:Nat):Int):=by rw[af (by omega) (by omega)];omega
         have hlo:ni lo n.ks i=n.ks[i-1]:=by
          obtain⟨j,rfl⟩:∃j,i=j+1:=⟨i-1,by omega⟩;simp only[ni,List.getD_eq_getElem?_getD];rw[List.getElem?_eq_getElem (by omega)];rfl
         have Y8:i-1<n.ks.length:=by omega
         have hgt:(0:Int)<(i:Int):=by omega
         rw[hlo]at g2;have hi':=ih (0+1) n.vs[i] n.ks[i-1] (some n.ks[i]) cc cur g6 g7 ⟨by have:=oh.1;omega,by have:=oh.2;omega⟩ (by omega) g3 g4 g5;have hn:=jL (t:=t) (pn:=pn) f (0+1) (by omega) cc n.vs[i] n.ks[i-1] (some n.ks[i]) cur g6 g7 ⟨g4,g5⟩ g3;obtain⟨Q,hQ⟩:∃Q,bA.ez f (0+1) cc n.vs[i] n.ks[i-1] (some n.ks[i]) cur=Q:=⟨_,rfl⟩;rw[hQ]at hi' hn g2;simp[c8,hik,hik',Y8,h0,wm,w11,cJ,Jv];refine ak (pN 23 [20,21,35]) hi' (by simp) (by simp) (by simp) (by simp) ?_;by_cases c9:Q.2.2=0
         ·rw[if_pos c9]at g2;have Nv:=hn.sn c9;have yc:(Q.2.2 !=0)=false:=by simpa using c9
          simp[yc,wi];refine⟨i+1,Q.1,Q.2.1,⟨by omega,?_,Nv,hn.dep.1,hn.dep.2,hn.ok,hn.hp⟩,by omega,aE (cL 23 37 [(35,49)]) (by simp)⟩;rw[if_neg (by omega),g2];simp[ni,hik]
         ·have yc:(Q.2.2 !=0)=true:=by simpa using c9
          rw[if_neg c9]at g2;rw[g2];simp[-aD,yc,Tryz.results261];exact⟨cL 23 37 [(35,49)],by simp⟩
       ·have hik':¬(i:Int)<(n.ks.length:Int):=by omega
        have hik'':¬i<n.ks.length:=by omega
        have Dw:n.ks.drop i=[]:=by rw[hik,List.drop_length]
        rw[Dw]at g2;simp only[iJ]at g2;have h0:0<i:=by have:=d2.inner jU;omega
        have wm:IntKind.i64.wrap ((i:Int)-1)=((i-1:Nat):Int):=by rw[af (by omega) (by omega)];omega
        have hlo:ni lo n.ks i=n.ks[i-1]:=by
         obtain⟨j,rfl⟩:∃j,i=j+1:=⟨i-1,by omega⟩;simp only[ni,List.getD_eq_getElem?_getD];rw[List.getElem?_eq_getElem (by omega)];rfl
        have Y8:i-1<n.ks.length:=by omega
        have hgt:(0:Int)<(i:Int):=by omega
        rw[hlo]at g2;have hi':=ih (0+1) n.vs[i] n.ks[i-1] hi cc cur g6 g7 ⟨by have:=oh.1;omega,by have:=oh.2;omega⟩ (by omega) g3 g4 g5;have hn:=jL (t:=t) (pn:=pn) f (0+1) (by omega) cc n.vs[i] n.ks[i-1] hi cur g6 g7 ⟨g4,g5⟩ g3;obtain⟨Q,hQ⟩:∃Q,bA.ez f (0+1) cc n.vs[i] n.ks[i-1] hi cur=Q:=⟨_,rfl⟩;rw[hQ]at hi' hn g2;simp[c8,hik',Y8,h0,wm,w11,cJ,Jv];refine ak (pN 23 [20,21,35]) hi' (by simp) (by simp) (by simp) (by simp) ?_;by_cases c9:Q.2.2=0
        ·have Nv:=hn.sn c9;have yc:(Q.2.2 !=0)=false:=by simpa using c9
         simp[yc,wi];refine⟨i+1,Q.1,Q.2.1,⟨by omega,?_,Nv,hn.dep.1,hn.dep.2,hn.ok,hn.hp⟩,by omega,aE (cL 23 37 [(35,49)]) (by simp)⟩;rw[if_pos (by omega),g2,<-c9]
        ·have yc:(Q.2.2 !=0)=true:=by simpa using c9
         rw[g2];simp[-aD,yc,Tryz.results261];exact⟨cL 23 37 [(35,49)],by simp⟩
      ·have ee:i=n.vs.length:=by omega
       rw[if_pos ee]at g2;rw[g2];have HG:¬(i:Int)<(n.vs.length:Int):=by omega
       simp[-aD,HG,Tryz.results261];exact⟨[],by simp⟩
    ·have pP:((d:Int)==0)=false:=by simp;omega
     have Nu:tv d n=1:=by simp[tv,jU,c5]
     have pR:=d2.inner jU;have c6z:¬(n.ks=[]):=fun h=>by rw[h]at pR;simp at pR
     have c6y:¬(n.ks.length:Int)<1:=by omega
     cases c7:xd n lo hi with
     |false=>
      rw[c7]at hfit;have e:RR=(Gu,dz c aG,10):=by rw[hM,if_neg (by rw[c7];simp)]
      rw[e];simp[jU,pP,c6y];refine ai hfit (by simp[jU]) ?_;simp[-aD,dz,Tryz.results261];exact⟨cL 23 24 [(35,23)],by simp⟩
     |true=>
      rw[c7]at hfit;have e:RR=iJ (bA.ez f (d+1)) lo n.ks hi n.vs Gu (dz c aG):=by rw[hM,if_pos ⟨by rw[Nu];exact pR,c7⟩,if_neg c4]
      simp[jU,pP,c6y];refine ai hfit (by simp[jU]) ?_;simp;rw[jU]at hvl;simp only[Bool.false_eq_true,if_false]at hvl;refine aN (fun y:Nat×Cs×Ck=>y.1<=n.vs.length/\(if y.1=n.vs.length then RR=(y.2.1,y.2.2,0)else RR=iJ (bA.ez f (d+1)) (ni lo n.ks y.1) (n.ks.drop y.1) hi (n.vs.drop y.1) y.2.1 y.2.2)/\yb pn y.2.2/\-1<=y.2.2.dep/\y.2.2.dep<=40/\fq t y.2.1/\y.2.1.s.pn=pn) (fun y=>[(0,.obj 21 0),(2,.p (.int (d:Nat))),(3,.p (.str lo)),(4,.p (.str (hi.getD []))),(5,.p (.bool hi.isSome)),(13,.obj 36 0),(95,.p (.sl (n.vs.map PC.int))),(96,.p (.int n.vs.length)),(97,.p (.int y.1))]) (fun y=>⟨jf.B 0 23 y.2.1++[(20,cJ root),(21,Jv 35 y.2.2),(36,⟨341,3,[.p (.bool false),.p (.sl (n.ks.map PC.str)),.p (.sl (n.vs.map PC.int))]⟩)],jG 23++[(35,3,1)],37⟩) (fun y=>n.vs.length-y.1) (0,Gu,dz c aG) ⟨by simp,by rw[if_neg (by omega)];simpa[ni]using e,U5,Br,hc3,hok,SK.trans hpp⟩ _ (AS.le_refl _ _) (aE (cL 23 24 [(35,23),(36,36)]) (by simp[dz])) ?_;rintro⟨i,cc,cur⟩ ⟨g1,g2,g3,g4,g5,g6,g7⟩;simp only at g1 g2 g3 g4 g5 g6 g7;have wd:IntKind.i64.wrap (((d:Nat):Int)+1)=((d+1:Nat):Int):=by rw[af (by omega) (by omega)];rfl
      have w11:IntKind.i64.wrap 1=1:=by decide
      have wi:IntKind.i64.wrap ((i:Int)+1)=((i+1:Nat):Int):=by rw[af (by omega) (by omega)];rfl
      by_cases c8:i<n.vs.length
      ·rw[if_neg (by omega)]at g2;rw[List.drop_eq_getElem_cons c8]at g2;have oh:=d2.vals n.vs[i] (List.getElem_mem c8);have OO:i<n.ks.length\/i=n.ks.length:=by omega
       rcases OO with hik|hik
       ·have hik':(i:Int)<(n.ks.length:Int):=by omega
        rw[List.drop_eq_getElem_cons hik]at g2;simp only[iJ]at g2;rcases Nat.eq_zero_or_pos i with h0|h0
        ·subst h0;have Kb:ni lo n.ks 0=lo:=rfl;rw[Kb]at g2;have hi':=ih (d+1) n.vs[0] lo (some n.ks[0]) cc cur g6 g7 ⟨by have:=oh.1;omega,by have:=oh.2;omega⟩ (by omega) g3 g4 g5;have hn:=jL (t:=t) (pn:=pn) f (d+1) (by omega) cc n.vs[0] lo (some n.ks[0]) cur g6 g7 ⟨g4,g5⟩ g3;obtain⟨Q,hQ⟩:∃Q,bA.ez f (d+1) cc n.vs[0] lo (some n.ks[0]) cur=Q:=⟨_,rfl⟩;rw[hQ]at hi' hn g2;simp[c8,hik,wd,cJ,Jv];refine ak (pN 23 [20,21,35]) hi' (by simp) (by simp) (by simp) (by simp) ?_;by_cases c9:Q.2.2=0
         ·rw[if_pos c9]at g2;have Nv:=hn.sn c9;have yc:(Q.2.2 !=0)=false:=by simpa using c9
          simp[yc];refine⟨1,Q.1,Q.2.1,⟨by omega,?_,Nv,hn.dep.1,hn.dep.2,hn.ok,hn.hp⟩,by omega,aE (cL 23 37 [(35,49)]) (by simp[w11])⟩;rw[if_neg (by omega),g2];simp[ni,hik]
         ·have yc:(Q.2.2 !=0)=true:=by simpa using c9
          rw[if_neg c9]at g2;rw[g2];simp[-aD,yc,Tryz.results261];exact⟨cL 23 37 [(35,49)],by simp⟩
        ·have wm:IntKind.i64.wrap ((i:Int)-1)=((i-1:Nat):Int):=by rw[af (by omega) (by omega)];omega
         have hlo:ni lo n.ks i=n.ks[i-1]:=by
          obtain⟨j,rfl⟩:∃j,i=j+1:=⟨i-1,by omega⟩;simp only[ni,List.getD_eq_getElem?_getD];rw[List.getElem?_eq_getElem (by omega)];rfl
         have Y8:i-1<n.ks.length:=by omega
         have hgt:(0:Int)<(i:Int):=by omega
         rw[hlo]at g2;have hi':=ih (d+1) n.vs[i] n.ks[i-1] (some n.ks[i]) cc cur g6 g7 ⟨by have:=oh.1;omega,by have:=oh.2;omega⟩ (by omega) g3 g4 g5;have hn:=jL (t:=t) (pn:=pn) f (d+1) (by omega) cc n.vs[i] n.ks[i-1] (some n.ks[i]) cur g6 g7 ⟨g4,g5⟩ g3;obtain⟨Q,hQ⟩:∃Q,bA.ez f (d+1) cc n.vs[i] n.ks[i-1] (some n.ks[i]) cur=Q:=⟨_,rfl⟩;rw[hQ]at hi' hn g2;simp[c8,hik,hik',Y8,h0,wm,wd,cJ,Jv];refine ak (pN 23 [20,21,35]) hi' (by simp) (by simp) (by simp) (by simp) ?_;by_cases c9:Q.2.2=0
         ·rw[if_pos c9]at g2;have Nv:=hn.sn c9;have yc:(Q.2.2 !=0)=false:=by simpa using c9
          simp[yc,wi];refine⟨i+1,Q.1,Q.2.1,⟨by omega,?_,Nv,hn.dep.1,hn.dep.2,hn.ok,hn.hp⟩,by omega,aE (cL 23 37 [(35,49)]) (by simp)⟩;rw[if_neg (by omega),g2];simp[ni,hik]
         ·have yc:(Q.2.2 !=0)=true:=by simpa using c9
          rw[if_neg c9]at g2;rw[g2];simp[-aD,yc,Tryz.results261];exact⟨cL 23 37 [(35,49)],by simp⟩
       ·have hik':¬(i:Int)<(n.ks.length:Int):=by omega
        have hik'':¬i<n.ks.length:=by omega
        have Dw:n.ks.drop i=[]:=by rw[hik,List.drop_length]
        rw[Dw]at g2;simp only[iJ]at g2;have h0:0<i:=by have:=d2.inner jU;omega
        have wm:IntKind.i64.wrap ((i:Int)-1)=((i-1:Nat):Int):=by rw[af (by omega) (by omega)];omega
        have hlo:ni lo n.ks i=n.ks[i-1]:=by
         obtain⟨j,rfl⟩:∃j,i=j+1:=⟨i-1,by omega⟩;simp only[ni,List.getD_eq_getElem?_getD];rw[List.getElem?_eq_getElem (by omega)];rfl
        have Y8:i-1<n.ks.length:=by omega
        have hgt:(0:Int)<(i:Int):=by omega
        rw[hlo]at g2;have hi':=ih (d+1) n.vs[i] n.ks[i-1] hi cc cur g6 g7 ⟨by have:=oh.1;omega,by have:=oh.2;omega⟩ (by omega) g3 g4 g5;have hn:=jL (t:=t) (pn:=pn) f (d+1) (by omega) cc n.vs[i] n.ks[i-1] hi cur g6 g7 ⟨g4,g5⟩ g3;obtain⟨Q,hQ⟩:∃Q,bA.ez f (d+1) cc n.vs[i] n.ks[i-1] hi cur=Q:=⟨_,rfl⟩;rw[hQ]at hi' hn g2;simp[c8,hik',Y8,h0,wm,wd,cJ,Jv];refine ak (pN 23 [20,21,35]) hi' (by simp) (by simp) (by simp) (by simp) ?_;by_cases c9:Q.2.2=0
        ·have Nv:=hn.sn c9;have yc:(Q.2.2 !=0)=false:=by simpa using c9
         simp[yc,wi];refine⟨i+1,Q.1,Q.2.1,⟨by omega,?_,Nv,hn.dep.1,hn.dep.2,hn.ok,hn.hp⟩,by omega,aE (cL 23 37 [(35,49)]) (by simp)⟩;rw[if_pos (by omega),g2,<-c9]
        ·have yc:(Q.2.2 !=0)=true:=by simpa using c9
         rw[g2];simp[-aD,yc,Tryz.results261];exact⟨cL 23 37 [(35,49)],by simp⟩
      ·have ee:i=n.vs.length:=by omega
       rw[if_pos ee]at g2;rw[g2];have HG:¬(i:Int)<(n.vs.length:Int):=by omega
       simp[-aD,HG,Tryz.results261];exact⟨[],by simp⟩
  ·rw[if_neg d2]at hM;have d3':(e !=0)=true:=by simpa using d2
   rw[hM];simp[-aD,d3',dz,Tryz.results261];exact⟨cL 23 24 [(35,23)],by simp⟩
end Go.Av
namespace Go.Av
open Go.Proofs Go.aW
open Go.cI (Nd rB l_ Key Ck)
theorem Lc(t:Nat)(c:Cs)(h:fq t c)(root:Int)(hroot:jT root):aI Tryz.prog 170 [.obj 20 0] ⟨jf.B 0 8 c++[(20,cJ root)],jG 8,21⟩ (.p (.int (bA.check c root).2)) ⟨jf.B 0 21 (bA.check c root).1++[(20,cJ root)],jG 21,33⟩:=by
 refine QgQ (rs:=[_]) [10] [] [] Tryz.func170 rfl (by simp[Tryz.ntmps170]) ?_;unfold Go.cI.ey.check;by_cases c0:root=0
 ·subst c0;simp[-aD,cJ,Tryz.results170];exact⟨cL 21 8 [],by simp⟩
 ·rw[if_neg c0];have OA:(root==0)=false:=by simpa using c0
  have hp:=Sz t root c.s.pn h.s.pn.2 40 0 root [] none c ⟨[],-1⟩ h rfl hroot (by omega) ⟨by simp,by simp⟩ (by simp) (by simp);have N7:aI Tryz.prog 261 [.obj 21 0,.p (.int root),.p (.int ((0:Nat):Int)),.p (.str []),.p (.str (Option.getD none [])),.p (.bool (none:Option Key).isSome)] ⟨jf.B 0 8 c++[(20,cJ root),(21,⟨374,3,[.obj 20 0,.p .nil,.p (.int (-1))]⟩)],jG 8,22⟩ _ _:=CV 21 1 3 1 ⟨374,3,[.obj 20 0,.p .nil,.p (.int (-1))]⟩ (by simp) rfl (zU hp (by simp[Tb.bX,Tb.aQ]) (by simp[Tb.bX,Tb.aQ]) rfl);obtain⟨Q,hQ⟩:∃Q,bA.ez 40 0 c root [] none ⟨[],-1⟩=Q:=⟨_,rfl⟩;rw[hQ]at N7⊢;simp[cJ,OA];refine ak (pN 8 [20,21]) N7 (by simp) (by simp) (by simp) (by simp) ?_;simp[-aD,Tryz.results170];exact⟨cL 21 23 [],by simp⟩
end Go.Av
namespace Go.Av
open Go.Proofs Go.aW
end Go.Av
namespace Go.aW
open Go.Av
def St.sM(s:St)(key:List UInt8)(v:Int):=bA.mS ⟨s,[],[]⟩ s.root key v
def St.DG(s:St)(count:Int)(key:List UInt8)(v:Int):St×Int:=({((s.sM key v).s.s.aX (s.sM key v).root count).1 with sl:=dF ((s.sM key v).s.s.aX (s.sM key v).root count).1.sl (s.sM key v).s.old},((s.sM key v).s.s.aX (s.sM key v).root count).2.2)
end Go.aW
namespace Go.Av
open Go.Proofs Go.aW
theorem WS(g:FuncId)(caps:List PC)(p:Nat×Nat->Bool)(l:List (Nat×Nat))(hl:l.length<=1000000000000)(hg:∀x∈l,aB Tryz.prog g (jk x::caps) (.bool (p x))):aB Tryz.prog 311 [.sl (l.map jk),.fn (.func g) caps] (.int (fE p l)):=by
 refine QpQ (ys:=[_]) [] [] [] Tryz.func311 rfl (by simp[Tryz.ntmps311]) ?_;obtain⟨R,hR⟩:∃R,R=fE p l:=⟨_,rfl⟩;rw[<-hR];simp;refine bW (fun i:Nat=>i<=l.length/\∀x∈l.take i,p x=false) (fun i=>[(0,.p (.sl (l.map jk))),(1,.p (.fn (.func g) caps)),(7,.p (.int l.length)),(8,.p (.int i))]) (fun i=>l.length-i) 0 ⟨by simp,by simp⟩ (aA (by simp)) ?_;rintro i ⟨g1,g2⟩;have hf:=mG p l i g2 g1;rw[<-hR]at hf;by_cases ci:i<l.length
 ·have wi:IntKind.i64.wrap ((i:Int)+1)=((i+1:Nat):Int):=by rw[af (by omega) (by omega)];rfl
  rw[List.drop_eq_getElem_cons ci]at hf;simp only[fE]at hf;simp[ci];refine ai (hg l[i] (List.getElem_mem ci)) (by simp) ?_;cases hp:p l[i]with
  |true=>
   simp[hp]at hf;simp[hf,Tryz.results311]
  |false=>
   simp[wi];refine⟨i+1,⟨by omega,fun a b hx=>?_⟩,by omega,aA (by simp)⟩;rw[List.take_succ_eq_append_getElem ci,List.mem_append]at hx;rcases hx with hx|hx
   ·exact g2 _ hx
   ·simp at hx;rw[hx];exact hp
 ·rw[List.drop_eq_nil_of_le (by omega)]at hf;simp[fE]at hf;simp[ci,hf,Tryz.results311]
theorem WT(g:FuncId)(caps:List PC)(p:Nat×Nat->Bool)(l:List (Nat×Nat))(hl:l.length<=1000000000000)(hg:∀x∈l,aB Tryz.prog g (jk x::caps) (.bool (p x))):aB Tryz.prog 231 [.sl (l.map jk),.fn (.func g) caps] (.bool (l.any p)):=by
 refine QpQ (ys:=[_]) [] [] [] Tryz.func231 rfl (by simp[Tryz.ntmps231]) ?_;simp;refine ai (WS g caps p l hl hg) (by simp) ?_;rw[<-pz];simp[Tryz.results231]
theorem QM(x:Nat×Nat)(L:List (List UInt8))(hx:x.2<=1000000000)(hL:L.length<=1000000000):aB Tryz.prog 233 [jk x,.ref (.sl (L.map cy))] (.bool (decide (L.length<=x.2))):=by
 refine QpQ (ys:=[_]) [] [] [] Tryz.func233 rfl (by simp[Tryz.ntmps233]) ?_;simp[Tryz.results233]
theorem PN(s:St)(h:qf s.rm)(L:List cU)(hL:L.length<=1000000)(hp:(s.rm.F.any fun x=>decide (L.length<=x.2))=true):aI Tryz.prog 230 [.obj 17 0,.obj 18 0] ⟨(17,⟨32,1,[.obj 6 0]⟩)::(18,⟨93,1,[.p (.sl (L.map cy))]⟩)::bF 0 7 s,eR 7,19⟩ (.p (.bool true)) ⟨(17,⟨32,1,[.obj 6 0]⟩)::(18,⟨93,1,[.p (.sl (L.map cy))]⟩)::bF 0 7 s,eR 7,19⟩:=by
 have hN:=h.F.Jk h.n;have hlen:=h.F.len;have hnn:=h.n;have hr:=VD 5 12 13 14 19 s.rm.n (by constructor<;>omega) s.rm.F s.rm.R s.rm.W (by omega);have ha:=WT 233 [.ref (.sl (L.map cy))] (fun x=>decide (L.length<=x.2)) s.rm.F (by omega) (fun x hx=>QM x L (by have:=h.F.top x hx;omega) (by omega));rw[hp]at ha;refine QgQ (rs:=[_]) [] [] [] Tryz.func230 rfl (by simp[Tryz.ntmps230]) ?_;simp[bF,aC,ax,bZ,bT,bP,b_];refine az hr (by simp) (by simp[ay]) (by simp[ay]) rfl ?_;simp;refine bE ha ?_ rfl ?_
 ·exact⟨iS (by simp[lk]) rfl,⟨rfl,⟨_,_,rfl,rfl,rfl,⟨_,rfl,.inl rfl⟩⟩,trivial⟩,trivial⟩
 simp[-aD,Tryz.results230];exact⟨[],by simp⟩
end Go.Av
namespace Go.aW
open Go.Av
def jI(e:eG):List cU:=bn (frame (aF e.pack.length 2++e.pack))
def St.AB(s:St)(e:eG):Int×Int:=(s.rm.take (jI e).length).2.1
def St.Ec(s:St)(e:eG):aU×Int:=s.D.write (cG s.jn s.pn+(s.AB e).1) (jI e)
def St.AE(s:St)(e:eG):St:={s with rm:=(s.rm.take (jI e).length).1,D:=(s.Ec e).1}
end Go.aW
namespace Go.Av
open Go.Proofs Go.aW
theorem uH{P:Program}{f:FuncId}{fn:Func}{c:Code}{xs rs:List AV}{r:AV}{tb aO:Tb}(md:List Nat)(cls:List (Nat×List (Nat×iw)))(lab:List (Nat×Nat))(ot:List (Nat×OT))(hf:P.funcs[f]?=some fn)(hb:fn.body=some c)(hnm:(fn.name=="runtime.NumGoroutine")=false)(hk:codeOk cls ot fn.ntmps c=true)(hx:xs.length<=fn.ntmps)(hr:r=wQ rs)(h:Sem P ⟨md,cls,lab,tb.nx,ot⟩ c (lM xs tb) (ve P fn (Ed tb.nx rs aO))):aI P f xs tb r aO:=by
 refine⟨⟨fn,hf,hnm,by rw[hb];rfl⟩,fun g w vs F hw hvs=>?_⟩;have:=qq (cx:=⟨md,cls,lab,tb.nx,ot⟩) hf hb hk hx rfl h hw hvs;refine this.mono ?_;rintro e w' ⟨us,zs,g',t,rfl,hle,hS,hR,rn,⟨h1,h2,h3,h4,h5,h6⟩,hto,mV⟩;refine⟨_,g'.cH (sP rn) aO.nx,rfl,G.jt hle (eW:=tb.nx) (fun i hi=>hw.fresh i (by omega)) h2 (fun i hi=>kH h1 hi),hS.cH h3 h4 h5 h6,?_⟩;rw[hr];exact mD (fh rs (fj _ hR hto) mV)
theorem HM(t:Nat)(ht:t<=30000)(s:St)(h:ic t s)(e:eG)(he:e.Ok)(hpk:e.wP=(e.pack,0))(hpl:e.pack.length<=8000)(hp:(s.rm.F.any fun x=>decide ((jI e).length<=x.2))=true)(hx:0<=(s.AB e).1/\(s.AB e).1<=65536)(hr:s.rm.run (jI e).length<s.rm.F.length)(hw:(s.Ec e).2=0):aI Tryz.prog 147 [.obj 6 0,.p (dY e)] ⟨bF 0 7 s,eR 7,17⟩ (.agg true [.p (gS (s.AB e)),.p (.int 0)]) ⟨bF 0 17 (s.AE e),eR 17,27⟩:=by
 have hpa:=PL e he (by omega);rw[hpk]at hpa;have hfl:[aF e.pack.length 2,e.pack].flatten=aF e.pack.length 2++e.pack:=by simp
 have b2:(aF (e.pack.length:Int) 2).length=2:=by simp[aF]
 have hfr:=xj [aF e.pack.length 2,e.pack] (by rw[hfl,List.length_append,b2];omega) (by simp);rw[hfl]at hfr;have amR:=fZ (aF e.pack.length 2++e.pack);rw[List.length_append,b2]at amR;have Dy:=qt (frame (aF e.pack.length 2++e.pack)) (by omega);have VI:=eI (frame (aF e.pack.length 2++e.pack));obtain⟨Z,hZ⟩:∃Z,s.AE e=Z:=⟨_,rfl⟩;rw[hZ];unfold St.AE at hZ;unfold St.Ec at hw hZ;unfold St.AB at hx hw hZ⊢;unfold jI at hp hx hr hw hZ⊢;generalize frame (aF e.pack.length 2++e.pack)=fr at*;generalize bn fr=L at*;have hLl:1<=L.length/\L.length<=1000:=by omega
 have hmk:=wN (.obj 6 0) (PN s h.rm L (by omega) hp) (by simp[Tb.merge,bF,cu,del]) (by simp[ay,bF,aC,ax,bZ,bT,bP,b_]) (by simp[ay]) (by simp) (by simp) (by simp[AV.to];exact .inl rfl) (by simp) (by simp[oz,bF,aC,ax,bZ,bT,bP,b_]);have lZ:=vC 5 12 13 14 20 (by constructor<;>omega) s.rm h.rm L.length (by omega) hr;have Wl:=vC 5 12 13 14 21 (by constructor<;>omega) s.rm h.rm L.length (by omega) hr;have hn:(s.rm.take L.length).1.n=s.rm.n:=by unfold Mp.take;split<;>rfl
 obtain⟨M,hM⟩:∃M,s.rm.take L.length=M:=⟨_,rfl⟩;rw[hM]at hx hw hZ lZ Wl hn⊢;obtain⟨m',x,bb⟩:=M;simp only at hx hw hZ lZ Wl hn⊢;have Oa:=h.pn;have hjn:=h.jn;have vb:cG s.jn s.pn=1+s.jn+s.pn*8:=rfl;have sN:=tC s.jn s.pn (by omega) (by omega);have w3:IntKind.i64.wrap (cG s.jn s.pn+x.1)=cG s.jn s.pn+x.1:=af (by omega) (by omega);have lg:=pe s.D (t*t) h.D (cG s.jn s.pn+x.1) (by omega) L (by omega) (by have:=PO ht;omega);obtain⟨Y,hY⟩:∃Y,s.D.write (cG s.jn s.pn+x.1) L=Y:=⟨_,rfl⟩;rw[hY]at lg hw hZ;obtain⟨D',e'⟩:=Y;simp only at lg hw hZ;subst hw;have h8:IntKind.u8.wrap ((e.pack.length:Int).fdiv (2^min 8 IntKind.i64.bits))=((uG ((e.pack.length:Int)/2^8)).toNat:Int):=by
  have e2:min 8 IntKind.i64.bits=8:=rfl;rw[e2,Int.fdiv_eq_ediv_of_nonneg _ (Int.le_of_lt (Int.pow_pos (by omega))),jM]
 have h0:=jM (e.pack.length:Int);have PR:aF (e.pack.length:Int) 2=[uG ((e.pack.length:Int)/2^8),uG (e.pack.length:Int)]:=by
  show[uG ((e.pack.length:Int)/2^8),uG ((e.pack.length:Int)/2^0)]=_;simp
 have hf2:aB Tryz.prog 178 [.sl [.sl [.sc (.int .u8 ((uG ((e.pack.length:Int)/2^8)).toNat:Int)),.sc (.int .u8 ((uG (e.pack.length:Int)).toNat:Int))],cy e.pack]] (cy fr):=by
  have:=hfr;rw[PR]at this;exact this
 refine uH (rs:=[_,_]) [2] [(10,[(0,.r 1),(4,.r 2),(5,.r 1),(8,.r 2),(9,.w [1,2,3,4]),(11,.r 4),(13,.r 3),(14,.w [1,2,3,4])])] [(1,17),(2,6),(3,19),(4,22)] [(9,(.br 0 (.one 1 (.one 2 (.br 3 (.br 4 (.one 5 (.br 6 (.one 7 (.one 8 (.one 9 (.br 10 (.br 11 (.br 12 .lf .lf) .lf) .lf)))) (.br 10 (.br 6 (.one 7 (.one 8 (.one 9 (.br 11 (.br 12 .lf .lf) .lf)))) .lf) .lf))) (.br 10 (.br 4 (.one 5 (.br 6 (.one 7 (.one 8 (.one 9 (.br 11 (.br 12 .lf .lf) .lf)))) .lf)) .lf) .lf)) (.br 4 (.one 5 (.br 3 (.br 6 (.one 7 (.one 8 (.one 9 (.br 10 (.br 11 (.br 12 .lf .lf) .lf) .lf)))) (.br 10 (.br 6 (.one 7 (.one 8 (.one 9 (.br 11 (.br 12 .lf .lf) .lf)))) .lf) .lf)) (.br 10 (.br 3 (.br 6 (.one 7 (.one 8 (.one 9 (.br 11 (.br 12 .lf .lf) .lf)))) .lf) .lf) .lf))) (.br 10 (.br 3 (.br 4 (.one 5 (.br 6 (.one 7 (.one 8 (.one 9 (.br 11 (.br 12 .lf .lf) .lf)))) .lf)) .lf) (.br 4 (.one 5 (.br 3 (.br 6 (.one 7 (.one 8 (.one 9 (.br 11 (.br 12 .lf .lf) .lf)))) .lf) .lf)) .lf)) .lf))))) (.br 4 (.one 5 (.br 0 (.one 1 (.one 2 (.br 3 (.br 6 (.one 7 (.one 8 (.one 9 (.br 10 (.br 11 (.br 12 .lf .lf) .lf) .lf)))) (.br 10 (.br 6 (.one 7 (.one 8 (.one 9 (.br 11 (.br 12 .lf .lf) .lf)))) .lf) .lf)) (.br 10 (.br 3 (.br 6 (.one 7 (.one 8 (.one 9 (.br 11 (.br 12 .lf .lf) .lf)))) .lf) .lf) .lf)))) (.br 10 (.br 0 (.one 1 (.one 2 (.br 3 (.br 6 (.one 7 (.one 8 (.one 9 (.br 11 (.br 12 .lf .lf) .lf)))) .lf) .lf))) .lf) .lf))) (.br 10 (.br 0 (.one 1 (.one 2 (.br 3 (.br 4 (.one 5 (.br 6 (.one 7 (.one 8 (.one 9 (.br 11 (.br 12 .lf .lf) .lf)))) .lf)) .lf) (.br 4 (.one 5 (.br 3 (.br 6 (.one 7 (.one 8 (.one 9 (.br 11 (.br 12 .lf .lf) .lf)))) .lf) .lf)) .lf)))) (.br 4 (.one 5 (.br 0 (.one 1 (.one 2 (.br 3 (.br 6 (.one 7 (.one 8 (.one 9 (.br 11 (.br 12 .lf .lf) .lf)))) .lf) .lf))) .lf)) .lf)) .lf))))] Tryz.func147 rfl (by kernel_rfl) (by kernel_rfl) (by simp[Tryz.ntmps147]) rfl ?_;refine bS mixed (fun _:Unit=>True) (fun _=>[(2,.obj 17 0),(3,.p (.ref (dY e))),(4,.obj 18 0)]) (fun _=>⟨(17,⟨32,1,[.obj 6 0]⟩)::(18,⟨157,2,[.p (.int 0),.p (.int 0)]⟩)::bF 0 7 s,eR 7,19⟩) ?_ (fun _ _=>?_)
 ·simp[bF,aC,ax,bZ,bT,bP,b_];exact aA (by simp)
 refine bS mixed (fun _:Unit=>True) (fun _=>[(2,.obj 17 0),(3,.p (.ref (dY e))),(4,.obj 18 0),(6,.p (cy e.pack)),(7,.p (.int 0))]) (fun _=>⟨(17,⟨32,1,[.obj 6 0]⟩)::(18,⟨157,2,[.p (.int 0),.p (.int 0)]⟩)::bF 0 7 s,eR 7,19⟩) ?_ (fun _ _=>?_)
 ·simp[bF,aC,ax,bZ,bT,bP,b_];refine ai hpa (by simp) ?_;simp;exact aA (by simp)
 refine bS mixed (fun _:Unit=>True) (fun _=>[(2,.obj 17 0),(3,.p (.ref (dY e))),(4,.obj 18 0),(6,.p (cy e.pack))]) (fun _=>⟨(17,⟨32,1,[.obj 6 0]⟩)::(18,⟨157,2,[.p (.int 0),.p (.int 0)]⟩)::bF 0 7 s,eR 7,19⟩) ?_ (fun _ _=>?_)
 ·simp[bF,aC,ax,bZ,bT,bP,b_];exact aA (by simp)
 refine bS mixed (fun _:Unit=>True) (fun _=>[(2,.obj 17 0),(3,.p (.ref (dY e))),(4,.obj 18 0),(8,.obj 19 0)]) (fun _=>⟨(19,⟨93,1,[.p (.sl (L.map cy))]⟩)::(17,⟨32,1,[.obj 6 0]⟩)::(18,⟨157,2,[.p (.int 0),.p (.int 0)]⟩)::bF 0 7 s,eR 7,20⟩) ?_ (fun _ _=>?_)
 ·simp[h8,h0,bF,aC,ax,bZ,bT,bP,b_];refine ai hf2 (by simp) ?_;simp;refine ai Dy (by simp) ?_;simp;exact aA (by simp)
 refine bS mixed (fun _:Unit=>True) (fun _=>[(2,.obj 17 0),(3,.p (.ref (dY e))),(4,.obj 18 0),(8,.obj 19 0),(9,.jZ (.func 230) [.obj 17 0,.obj 19 0])]) (fun _=>⟨(19,⟨93,1,[.p (.sl (L.map cy))]⟩)::(17,⟨32,1,[.obj 6 0]⟩)::(18,⟨157,2,[.p (.int 0),.p (.int 0)]⟩)::bF 0 7 s,eR 7,20⟩) ?_ (fun _ _=>?_)
 ·simp[bF,aC,ax,bZ,bT,bP,b_];exact aA (by simp)
 refine bS mixed (fun _:Unit=>True) (fun _=>[(2,.obj 17 0),(3,.p (.ref (dY e))),(4,.obj 18 0),(8,.obj 19 0)]) (fun _=>⟨(19,⟨93,1,[.p (.sl (L.map cy))]⟩)::(17,⟨32,1,[.obj 6 0]⟩)::(18,⟨157,2,[.p (.int 0),.p (.int 0)]⟩)::bF 0 7 s,eR 7,20⟩) ?_ (fun _ _=>?_)
 ·simp[bF,aC,ax,bZ,bT,bP,b_];refine ak [0,1,2,3,4,5,6,7,8,9,10,11,12,13,14,15,16,17,19] hmk (by simp) (by simp) (by simp[ay,bF,aC,ax,bZ,bT,bP,b_]) (by simp[ay]) ?_;simp[bF,aC,ax,bZ,bT,bP,b_];exact aA (by simp)
 refine bS mixed (fun _:Unit=>True) (fun _=>[(2,.obj 17 0),(4,.obj 18 0),(8,.obj 19 0),(10,.obj 22 0)]) (fun _=>⟨(22,⟨157,2,[.p (.int x.1),.p (.int x.2)]⟩)::(19,⟨93,1,[.p (.sl (L.map cy))]⟩)::(17,⟨32,1,[.obj 6 0]⟩)::(18,⟨157,2,[.p (.int 0),.p (.int 0)]⟩)::[(0,aC 0 7 s.D),(1,ax s.D.kept),(2,ax s.D.now),(3,eY 0 8 s.J),(4,bZ 9 s.sl),(5,iM s.rm.n 20 21 14 m'.F m'.R m'.W),(6,bT 0 7 s),(9,cn s.sl.F),(10,cn s.sl.R),(11,cn s.sl.W),(20,cn m'.F),(21,cn m'.R),(14,cn m'.W),(15,bP s.ix),(16,b_ s.lJ)],eR 7,23⟩) ?_ (fun _ _=>?_)
 ·simp[bF,aC,ax,bZ,bT,bP,b_]
  repeat' refine And.intro ?_ ?_
  all_goals first
   |(refine az lZ (by simp) (by simp[ay]) (by simp[ay]) rfl ?_;simp;exact aA (by simp))
   |(refine az Wl (by simp) (by simp[ay]) (by simp[ay]) rfl ?_;simp;exact aE [(20,21),(21,22),(22,20)] (by simp))
 refine ga mixed ?_;simp[bF,aC,ax,bZ,bT,bP,b_];refine ak [0] sN (by simp) (by simp) (by simp) (by simp) ?_;simp[w3];refine ak [0,1,2,7] lg (by simp) (by simp) (by simp[ay,ax]) (by simp[ay]) ?_;rw[<-hZ];simp[-aD,ax,hn,Tryz.results147];exact⟨[(17,23),(18,8),(19,9),(20,10),(21,11),(22,20),(23,21),(24,14),(25,15),(26,16)],by simp⟩
end Go.Av
namespace Go.aW
open Go.Av
theorem Ll(x:Int)(n:Nat)(hx:0<=x):aF x (n+1)=aF (x/256) n++[uG x]:=by
 unfold aF;rw[List.range_succ,List.map_append];congr 1
 ·apply List.map_congr_left;intro j hj;have hj:=List.mem_range.1 hj;rw[show 8*(n+1-1-j)=8+8*(n-1-j) by omega,Int.pow_add,Int.ediv_ediv_of_nonneg (by decide)];rfl
 ·simp
theorem PK(x:Int)(hx:0<=x):(uG x).toNat=x.toNat%256:=by
 unfold uG;simp;omega
theorem B_:∀(n:Nat) (x:Int),0<=x->x<256^n->(iL (aF x n):Int)=x
 |0,x,h,h2=>by simp[aF,iL];simp at h2;omega
 |n+1,x,h,h2=>by
  have h3:x/256<256^n:=by rw[Int.pow_succ]at h2;omega
  rw[Ll x n h,jj,PK x h];have:=B_ n (x/256) (by omega) h3;omega
theorem sX(n:Nat)(x:Int)(h:0<=x)(h2:x<256^n)(h3:x<9223372036854775808):cK (aF x n)=x:=by
 unfold cK;rw[B_ n x h h2];exact af (by omega) (by omega)
def js(s:List UInt8):List UInt8:=aF s.length 2++s
theorem HJ(s:List UInt8)(l:List (List UInt8)):a_ (s::l)=js s++a_ l:=by simp[a_,js]
end Go.aW
namespace Go.Av
open Go.Proofs Go.aW
theorem tD(x:Int)(n:Nat)(r:List UInt8)(hr:r.length<=100000000)(hn:n<=8)(h:0<=x)(h2:x<256^n)(h3:x<9223372036854775808):aI Tryz.prog 330 [.obj 0 0,.p (.int n)] ⟨[(0,Dz (aF x n++r))],[],1⟩ (.p (.int x)) ⟨[(0,Dz r)],[],1⟩:=by
 have h:=xh (aF x n++r) (by simp[aY];omega) n (by simp[aY]);rw[List.take_left' (aY x n),List.drop_left' (aY x n),sX n x ‹_› h2 h3]at h;exact h
theorem HK(s r:List UInt8)(hr:r.length<=100000000)(h:s.length<65536):aI Tryz.prog 331 [.obj 0 0] ⟨[(0,Dz (js s++r))],[],1⟩ (.p (.str s)) ⟨[(0,Dz r)],[],1⟩:=by
 have hl:=aY (s.length:Int) 2;have h:=Lm (js s++r) (by simp[js,aY];omega) s.length (by simp[js,aY]) (by rw[js,List.append_assoc,List.take_left' hl,sX 2 s.length (by omega) (by simp;omega) (by omega)]) (by simp[js,aY];try omega);rw[js,List.append_assoc,List.drop_left' hl,List.take_left' rfl]at h;rw[show 2+s.length=(aF s.length 2++s).length by simp[aY],<-List.append_assoc,List.drop_left' rfl]at h;rw[js,List.append_assoc];rwa[List.append_assoc]at h
end Go.Av
