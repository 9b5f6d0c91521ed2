/- DiskShapes, part 23: what functions compute, and its plain law; no condition. -/
import Derived.Test.YtgkdpbambfgahaaGreatDoorWav
set_option linter.all false
set_option maxRecDepth 100000
set_option maxHeartbeats 64000000
namespace Go.aT
open Go.Av
open Go.cC (Nd rB nZ Ck dD Key Right)
structure zJ(pn:Int)(c:Ck):Prop where
 nd:c.seen.Nodup
 ex:∀p∈c.seen,1<=p/\p<=pn
theorem Zm{pn:Int}{c:Ck}(h:zJ pn c)(hp:pn<=4096):c.seen.length<=4096:=by
 have:=Go.cC.wU 4096 h.nd (fun p hp'=>by have:=h.ex p hp';omega);exact this
theorem PN(c:Cs)(p:Int):(bA.tl c p).1.s.pn=c.s.pn/\((bA.tl c p).2.2=0->1<=p/\p<=c.s.pn):=by
 have h1:(bA.ld c p).1.s.pn=c.s.pn/\((bA.ld c p).2.2=0->1<=p/\p<=c.s.pn):=by
  show(c.ld p).1.s.pn=c.s.pn/\((c.ld p).2.2=0->1<=p/\p<=c.s.pn);unfold Cs.ld;by_cases h:p<1\/c.s.pn<p
  ·rw[if_pos h];simp
  ·rw[if_neg h];have:1<=p/\p<=c.s.pn:=by omega
   split
   ·split<;>exact⟨rfl,fun _=>this⟩
   ·exact⟨rfl,fun _=>this⟩
 unfold Go.cC.eu.tl;split
 ·rename_i h0;split
  ·exact⟨h1.1,fun _=>h1.2 h0⟩
  ·exact⟨h1.1,fun h=>by simp at h⟩
 ·rename_i h0;exact⟨h1.1,fun h=>absurd h h0⟩
structure NI(t:Nat)(pn:Int)(x:Cs×Ck×Int):Prop where
 ok:fL t x.1
 hp:x.1.s.pn=pn
 dep:-1<=x.2.1.dep/\x.2.1.dep<=40
 sn:x.2.2=0->zJ pn x.2.1
theorem E0{t:Nat}{pn:Int}{g:Cs->Int->Key->Option Key->Ck->Cs×Ck×Int}(hg:∀s v lo hi c,fL t s->s.s.pn=pn->(-1<=c.dep/\c.dep<=40)->zJ pn c->NI t pn (g s v lo hi c)):∀(lo:Key) (ks:List Key) (hi:Option Key) (vs:List Int) (s:Cs) (c:Ck),fL t s->s.s.pn=pn->(-1<=c.dep/\c.dep<=40)->zJ pn c->NI t pn (Go.cC.eu.jx g lo ks hi vs s c)
 |lo,[],hi,[],s,c,h1,h2,h3,h4=>by unfold Go.cC.eu.jx;exact⟨h1,h2,h3,fun _=>h4⟩
 |lo,[],hi,v::vs,s,c,h1,h2,h3,h4=>by unfold Go.cC.eu.jx;exact hg _ _ _ _ _ h1 h2 h3 h4
 |lo,k::ks,hi,[],s,c,h1,h2,h3,h4=>by unfold Go.cC.eu.jx;exact⟨h1,h2,h3,fun _=>h4⟩
 |lo,k::ks,hi,v::vs,s,c,h1,h2,h3,h4=>by
  have hh:=hg s v lo (some k) c h1 h2 h3 h4;unfold Go.cC.eu.jx;split
  ·rename_i h0;exact E0 hg k ks hi vs _ _ hh.ok hh.hp hh.dep (hh.sn h0)
  ·exact hh
theorem G5{pn:Int}{c:Ck}(h:zJ pn c){p:Int}(hp:¬p∈c.seen)(h1:1<=p/\p<=pn)(d:Int):zJ pn ⟨c.seen++[p],d⟩:=by
 refine⟨List.nodup_append.2 ⟨h.nd,by simp,fun a ha b hb e=>?_⟩,fun q hq=>?_⟩
 ·rw[List.mem_singleton]at hb;subst hb;subst e;exact hp ha
 ·rcases iR.1 hq with hq|hq
  ·exact h.ex q hq
  ·rw[List.mem_singleton]at hq;subst hq;exact h1
theorem lg{t:Nat}{pn:Int}:∀(f d:Nat),d+f<=40->∀(s:Cs) (page:Int) (lo:Key) (hi:Option Key) (c:Ck),fL t s->s.s.pn=pn->(-1<=c.dep/\c.dep<=40)->zJ pn c->NI t pn (bA.eH f d s page lo hi c)
 |0,d,_,s,page,lo,hi,c,h1,h2,h3,h4=>⟨h1,h2,h3,fun h=>by simp[Go.cC.eu.eH]at h⟩
 |f+1,d,hd,s,page,lo,hi,c,h1,h2,h3,h4=>by
  unfold Go.cC.eu.eH;split
  ·exact⟨h1,h2,h3,fun h=>by simp at h⟩
  ·rename_i hn;have UW:¬page∈c.seen:=fun h=>hn (.inl h);have k1:=h1.tl page;have k2:=(PN s page).1.trans h2;split
   ·rename_i h0;have hb:=(PN s page).2 h0;rw[h2]at hb;split
    ·split
     ·split
      ·exact⟨k1,k2,h3,fun h=>by simp at h⟩
      ·exact⟨k1,k2,by simp only;omega,fun _=>G5 h4 UW hb _⟩
     ·exact E0 (fun s v lo hi c a1 a2 a3 a4=>lg f (d+1) (by omega) s v lo hi c a1 a2 a3 a4) _ _ _ _ _ _ k1 k2 h3 (G5 h4 UW hb _)
    ·exact⟨k1,k2,h3,fun h=>by simp at h⟩
   ·rename_i h0;exact⟨k1,k2,h3,fun h=>absurd h h0⟩
end Go.aT
namespace Go.Av
open Go.Proofs Go.Proofs.Tryz Go.aT
open Go.cC (Nd rB nZ Right lC Key Ck dD rP vf o9)
open Go.cC.eu (jx)
@[reducible]def LK(q:Nat)(c:Ck):Ob:=⟨374,3,[.obj 20 0,.own q (c.seen.map PC.int),.p (.int c.dep)]⟩
theorem T0(l:List Int)(p:Int):(l.any fun x=>p==x)=decide (p∈l):=by
 induction l with
 |nil=>rfl
 |cons x l ih=>
  by_cases h:p=x
  ·subst h;simp
  ·have:(p==x)=false:=by simpa using h
   simp[ih,this,h]
theorem TP(t:Nat)(root pn:Int)(Q0:pn<=4096):∀(f d:Nat) (page:Int) (lo:Key) (hi:Option Key) (cs:Cs) (c:Ck),fL t cs->cs.s.pn=pn->lD page->d+f=40->zJ pn c->-1<=c.dep->c.dep<=40->aE prog 261 [.obj 21 0,.p (.int page),.p (.int d),.p (.str lo),.p (.str (hi.getD [])),.p (.bool hi.isSome)] ⟨kg.B 0 8 cs++[(20,cI root),(21,LK 22 c)],kY 8++[(22,3,1)],23⟩ (.p (.int (bA.eH f d cs page lo hi c).2.2)) ⟨kg.B 0 23 (bA.eH f d cs page lo hi c).1++[(20,cI root),(21,LK 35 (bA.eH f d cs page lo hi c).2.1)],kY 23++[(35,3,1)],36⟩:=by
 intro f
 induction f with
 |zero=>
  intro d page lo hi cs c h hpp hp hd Gc Db hc3;have FH:(40:Int)<=(d:Int):=by omega
  refine ah (rs:=[_]) [] [] [] func261 rfl ?_;simp[-az,cI,LK,FH,Go.cC.eu.eH,results261];exact⟨cL 23 8 [(35,22)],by simp⟩
 |succ f ih=>
  intro d page lo hi cs c h hpp hp hd Gc Db hc3;have FH:¬(40:Int)<=(d:Int):=by omega
  have lZ:=Zm Gc Q0;have hct:=Oj page c.seen (by omega);rw[T0]at hct;obtain⟨RR,Qt⟩:∃RR,RR=bA.eH (f+1) d cs page lo hi c:=⟨_,rfl⟩;rw[<-Qt];refine ah (rs:=[_]) [] [] [] func261 rfl ?_;simp[cI,LK,FH];refine bS hct ?_;by_cases c1:page∈c.seen
  ·have e:RR=(cs,c,10):=by rw[Qt];unfold Go.cC.eu.eH;rw[if_pos (.inl c1)]
   rw[e];simp[-az,c1,results261];exact⟨cL 23 8 [(35,22)],by simp⟩
  by_cases c2:page<1
  ·have e:RR=(cs,c,10):=by rw[Qt];unfold Go.cC.eu.eH;rw[if_pos (.inr c2)]
   rw[e];simp[-az,c1,c2,results261];exact⟨cL 23 8 [(35,22)],by simp⟩
  have hnot:¬(page∈c.seen\/page<1):=by rintro(h|h);exact c1 h;exact c2 h
  have hl:=xw t cs h root page hp;have hcs:=pZ cs page;have hok:=h.tl page;obtain⟨T3,FQ⟩:=PN cs page;have hM:RR=if(bA.tl cs page).2.2=0 then(if vf d (bA.tl cs page).2.1<=(bA.tl cs page).2.1.ks.length/\rP (bA.tl cs page).2.1 lo hi=true then
   if(bA.tl cs page).2.1.lf=true then if 0<=c.dep/\c.dep≠d then((bA.tl cs page).1,dD c page,10)else((bA.tl cs page).1,⟨c.seen++[page],d⟩,0)
   else jx (bA.eH f (d+1)) lo (bA.tl cs page).2.1.ks hi (bA.tl cs page).2.1.vs (bA.tl cs page).1 (dD c page)else((bA.tl cs page).1,dD c page,10))else((bA.tl cs page).1,dD c page,(bA.tl cs page).2.2):=by
   rw[Qt]
   conv=>lhs;unfold Go.cC.eu.eH
   rw[if_neg hnot]
  obtain⟨R,hR⟩:∃R,bA.tl cs page=R:=⟨_,rfl⟩;rw[hR]at hl hcs hok T3 FQ hM;obtain⟨IC,n,e⟩:=R;simp only at hl hcs hok T3 FQ hM;simp[c1,c2];refine⟨by omega,by omega,?_⟩;refine jI (rI 8 [20]) hl ?_;rcases hcs with⟨rfl,d2⟩|⟨rfl,d2⟩
  ·rw[if_pos rfl]at hM;have VF:zJ pn (dD c page):=G5 Gc c1 (by have:=FQ rfl;omega) _;have hvl:=d2.form;have rQ:=d2.len;have hfit:=W0 n lo hi (by omega);by_cases c4:n.lf=true
   ·by_cases c5:d=0
    ·subst c5;have qS:(((0:Nat):Int)==0)=true:=rfl;have hfw:vf 0 n=1:=by simp[vf]
     by_cases c6:1<=n.ks.length
     ·have AX:¬(n.ks.length:Int)<1:=by omega
      cases c7:rP n lo hi with
      |true=>
       rw[c7]at hfit;by_cases c8:0<=c.dep/\c.dep≠(0:Nat)
       ·have e:RR=(IC,dD c page,10):=by rw[hM,if_pos ⟨by rw[hfw];exact c6,c7⟩,if_pos c4,if_pos c8]
        have JO:(c.dep !=(0:Int))=true:=by have:=c8.2;simpa using this
        rw[e];simp[c4,AX];refine bZ hfit (by simp[c4]) ?_;simp[-az,c8.1,JO,dD,results261];exact⟨cL 23 24 [(35,23)],by simp⟩
       ·have e:RR=(IC,⟨c.seen++[page],(0:Nat)⟩,0):=by rw[hM,if_pos ⟨by rw[hfw];exact c6,c7⟩,if_pos c4,if_neg c8]
        rw[e];simp[c4,AX];refine bZ hfit (by simp[c4]) ?_;by_cases c9:0<=c.dep
        ·have c8e:c.dep=((0:Nat):Int):=Classical.not_not.1 fun h=>c8 ⟨c9,h⟩;have JO:(c.dep !=(0:Int))=false:=by simpa using c8e
         simp[-az,c9,JO,results261];exact⟨cL 23 24 [(35,23)],by simp⟩
        ·simp[-az,c9,results261];exact⟨cL 23 24 [(35,23)],by simp⟩
      |false=>
       rw[c7]at hfit;have e:RR=(IC,dD c page,10):=by rw[hM,if_neg (by rw[c7];simp)]
       rw[e];simp[c4,AX];refine bZ hfit (by simp[c4]) ?_;simp[-az,dD,results261];exact⟨cL 23 24 [(35,23)],by simp⟩
     ·have AX:(n.ks.length:Int)<1:=by omega
      have e:RR=(IC,dD c page,10):=by rw[hM,if_neg (fun h=>c6 (hfw▸h.1))]
      rw[e];simp[-az,c4,AX,dD,results261];exact⟨cL 23 24 [(35,23)],by simp⟩
    ·have qS:((d:Int)==0)=false:=by simp;omega
     have hfw:vf d n=2:=by simp[vf,c4,c5]
     by_cases c6:2<=n.ks.length
     ·have AX:¬(n.ks.length:Int)<2:=by omega
      cases c7:rP n lo hi with
      |true=>
       rw[c7]at hfit;by_cases c8:0<=c.dep/\c.dep≠(d:Nat)
       ·have e:RR=(IC,dD c page,10):=by rw[hM,if_pos ⟨by rw[hfw];exact c6,c7⟩,if_pos c4,if_pos c8]
        have JO:(c.dep !=(d:Int))=true:=by have:=c8.2;simpa using this
        rw[e];simp[c4,qS,AX];refine bZ hfit (by simp[c4]) ?_;simp[-az,c8.1,JO,dD,results261];exact⟨cL 23 24 [(35,23)],by simp⟩
       ·have e:RR=(IC,⟨c.seen++[page],(d:Nat)⟩,0):=by rw[hM,if_pos ⟨by rw[hfw];exact c6,c7⟩,if_pos c4,if_neg c8]
        rw[e];simp[c4,qS,AX];refine bZ hfit (by simp[c4]) ?_;by_cases c9:0<=c.dep
        ·have c8e:c.dep=((d:Nat):Int):=Classical.not_not.1 fun h=>c8 ⟨c9,h⟩;have JO:(c.dep !=(d:Int))=false:=by simpa using c8e
         simp[-az,c9,JO,results261];exact⟨cL 23 24 [(35,23)],by simp⟩
        ·simp[-az,c9,results261];exact⟨cL 23 24 [(35,23)],by simp⟩
      |false=>
       rw[c7]at hfit;have e:RR=(IC,dD c page,10):=by rw[hM,if_neg (by rw[c7];simp)]
       rw[e];simp[c4,qS,AX];refine bZ hfit (by simp[c4]) ?_;simp[-az,dD,results261];exact⟨cL 23 24 [(35,23)],by simp⟩
     ·have AX:(n.ks.length:Int)<2:=by omega
      have e:RR=(IC,dD c page,10):=by rw[hM,if_neg (fun h=>c6 (hfw▸h.1))]
      rw[e];simp[-az,c4,qS,AX,dD,results261];exact⟨cL 23 24 [(35,23)],by simp⟩
   ·have kT:n.lf=false:=Bool.eq_false_iff.2 c4;by_cases c5:d=0
    ·subst c5;have qS:(((0:Nat):Int)==0)=true:=rfl;have hfw:vf 0 n=1:=by simp[vf]
     have rR:=d2.inner kT;have c6z:¬(n.ks=[]):=fun h=>by rw[h]at rR;simp at rR
     have c6y:¬(n.ks.length:Int)<1:=by omega
     cases c7:rP n lo hi with
     |false=>
      rw[c7]at hfit;have e:RR=(IC,dD c page,10):=by rw[hM,if_neg (by rw[c7];simp)]
      rw[e];simp[kT,c6y];refine bZ hfit (by simp[kT]) ?_;simp[-az,dD,results261];exact⟨cL 23 24 [(35,23)],by simp⟩
     |true=>
      rw[c7]at hfit;have e:RR=jx (bA.eH f (0+1)) lo n.ks hi n.vs IC (dD c page):=by rw[hM,if_pos ⟨by rw[hfw];exact rR,c7⟩,if_neg c4]
      simp[kT,c6y];refine bZ hfit (by simp[kT]) ?_;simp;rw[kT]at hvl;simp only[Bool.false_eq_true,if_false]at hvl;refine aL (fun y:Nat×Cs×Ck=>y.1<=n.vs.length/\(if y.1=n.vs.length then RR=(y.2.1,y.2.2,0)else RR=jx (bA.eH f (0+1)) (o9 lo n.ks y.1) (n.ks.drop y.1) hi (n.vs.drop y.1) y.2.1 y.2.2)/\zJ pn y.2.2/\-1<=y.2.2.dep/\y.2.2.dep<=40/\fL t y.2.1/\y.2.1.s.pn=pn) (fun y=>[(0,.obj 21 0),(2,.p (.int (0:Nat))),(3,.p (.str lo)),(4,.p (.str (hi.getD []))),(5,.p (.bool hi.isSome)),(13,.obj 36 0),(95,.p (.sl (n.vs.map PC.int))),(96,.p (.int n.vs.length)),(97,.p (.int y.1))]) (fun y=>⟨kg.B 0 23 y.2.1++[(20,cI root),(21,LK 35 y.2.2),(36,⟨341,3,[.p (.bool false),.p (.sl (n.ks.map PC.str)),.p (.sl (n.vs.map PC.int))]⟩)],kY 23++[(35,3,1)],37⟩) (fun y=>n.vs.length-y.1) (0,IC,dD c page) ⟨by simp,by rw[if_neg (by omega)];simpa[o9]using e,VF,Db,hc3,hok,T3.trans hpp⟩ _ (AS.le_refl _ _) (aB (cL 23 24 [(35,23),(36,36)]) (by simp[dD])) ?_;rintro⟨i,cc,cur⟩ ⟨g1,g2,g3,g4,g5,g6,g7⟩;simp only at g1 g2 g3 g4 g5 g6 g7;have wd:IntKind.i64.wrap (((0:Nat):Int)+1)=((0+1:Nat):Int):=by rw[aD];rfl
      have w11:IntKind.i64.wrap 1=1:=by decide
      have wi:=jq i;by_cases c8:i<n.vs.length
      ·rw[if_neg (by omega)]at g2;rw[List.drop_eq_getElem_cons c8]at g2;have p_:=d2.vals n.vs[i] (List.getElem_mem c8);have QW:i<n.ks.length\/i=n.ks.length:=by omega
       rcases QW with hik|hik
       ·have hik':(i:Int)<(n.ks.length:Int):=by omega
        rw[List.drop_eq_getElem_cons hik]at g2;simp only[jx]at g2;rcases Nat.eq_zero_or_pos i with h0|h0
        ·subst h0;have hl0:o9 lo n.ks 0=lo:=rfl;rw[hl0]at g2;have hi':=ih (0+1) n.vs[0] lo (some n.ks[0]) cc cur g6 g7 ⟨by have:=p_.1;omega,by have:=p_.2;omega⟩ (by omega) g3 g4 g5;have hn:=lg (t:=t) (pn:=pn) f (0+1) (by omega) cc n.vs[0] lo (some n.ks[0]) cur g6 g7 ⟨g4,g5⟩ g3;obtain⟨Q,hQ⟩:∃Q,bA.eH f (0+1) cc n.vs[0] lo (some n.ks[0]) cur=Q:=⟨_,rfl⟩;rw[hQ]at hi' hn g2;simp[c8,hik,w11,cI,LK];refine jI (rI 23 [20,21,35]) hi' ?_;by_cases c9:Q.2.2=0
         ·rw[if_pos c9]at g2;have PO:=hn.sn c9;have zK:(Q.2.2 !=0)=false:=by simpa using c9
          simp[zK];refine⟨1,Q.1,Q.2.1,⟨by omega,?_,PO,hn.dep.1,hn.dep.2,hn.ok,hn.hp⟩,by omega,aB (cL 23 37 [(35,49)]) (by simp[w11])⟩;rw[if_neg (by omega),g2];simp[o9,hik]
         ·have zK:(Q.2.2 !=0)=true:=by simpa using c9
          rw[if_neg c9]at g2;rw[g2];simp[-az,zK,results261];exact⟨cL 23 37 [(35,49)],by simp⟩
        ·have wm:IntKind.i64.wrap ((i:Int)-1)=((i-1:Nat):Int):=by rw[aD];omega
         have hlo:o9 lo n.ks i=n.ks[i-1]:=by
          obtain⟨j,rfl⟩:∃j,i=j+1:=⟨i-1,by omega⟩;simp only[o9,pR];rw[kq (by omega)];rfl
         have Zn:i-1<n.ks.length:=by omega
         have hgt:(0:Int)<(i:Int):=by omega
         rw[hlo]at g2;have hi':=ih (0+1) n.vs[i] n.ks[i-1] (some n.ks[i]) cc cur g6 g7 ⟨by have:=p_.1;omega,by have:=p_.2;omega⟩ (by omega) g3 g4 g5;have hn:=lg (t:=t) (pn:=pn) f (0+1) (by omega) cc n.vs[i] n.ks[i-1] (some n.ks[i]) cur g6 g7 ⟨g4,g5⟩ g3;obtain⟨Q,hQ⟩:∃Q,bA.eH f (0+1) cc n.vs[i] n.ks[i-1] (some n.ks[i]) cur=Q:=⟨_,rfl⟩;rw[hQ]at hi' hn g2;simp[c8,hik,hik',Zn,h0,wm,w11,cI,LK];refine jI (rI 23 [20,21,35]) hi' ?_;by_cases c9:Q.2.2=0
         ·rw[if_pos c9]at g2;have PO:=hn.sn c9;have zK:(Q.2.2 !=0)=false:=by simpa using c9
          simp[zK,wi];refine⟨i+1,Q.1,Q.2.1,⟨by omega,?_,PO,hn.dep.1,hn.dep.2,hn.ok,hn.hp⟩,by omega,aB (cL 23 37 [(35,49)]) (by simp)⟩;rw[if_neg (by omega),g2];simp[o9,hik]
         ·have zK:(Q.2.2 !=0)=true:=by simpa using c9
          rw[if_neg c9]at g2;rw[g2];simp[-az,zK,results261];exact⟨cL 23 37 [(35,49)],by simp⟩
       ·have hik':¬(i:Int)<(n.ks.length:Int):=by omega
        have hik'':¬i<n.ks.length:=by omega
        have hdr:n.ks.drop i=[]:=by rw[hik,List.drop_length]
        rw[hdr]at g2;simp only[jx]at g2;have h0:0<i:=by have:=d2.inner kT;omega
        have wm:IntKind.i64.wrap ((i:Int)-1)=((i-1:Nat):Int):=by rw[aD];omega
        have hlo:o9 lo n.ks i=n.ks[i-1]:=by
         obtain⟨j,rfl⟩:∃j,i=j+1:=⟨i-1,by omega⟩;simp only[o9,pR];rw[kq (by omega)];rfl
        have Zn:i-1<n.ks.length:=by omega
        have hgt:(0:Int)<(i:Int):=by omega
        rw[hlo]at g2;have hi':=ih (0+1) n.vs[i] n.ks[i-1] hi cc cur g6 g7 ⟨by have:=p_.1;omega,by have:=p_.2;omega⟩ (by omega) g3 g4 g5;have hn:=lg (t:=t) (pn:=pn) f (0+1) (by omega) cc n.vs[i] n.ks[i-1] hi cur g6 g7 ⟨g4,g5⟩ g3;obtain⟨Q,hQ⟩:∃Q,bA.eH f (0+1) cc n.vs[i] n.ks[i-1] hi cur=Q:=⟨_,rfl⟩;rw[hQ]at hi' hn g2;simp[c8,hik',Zn,h0,wm,w11,cI,LK];refine jI (rI 23 [20,21,35]) hi' ?_;by_cases c9:Q.2.2=0
        ·have PO:=hn.sn c9;have zK:(Q.2.2 !=0)=false:=by simpa using c9
         simp[zK,wi];refine⟨i+1,Q.1,Q.2.1,⟨by omega,?_,PO,hn.dep.1,hn.dep.2,hn.ok,hn.hp⟩,by omega,aB (cL 23 37 [(35,49)]) (by simp)⟩;rw[if_pos (by omega),g2,<-c9]
        ·have zK:(Q.2.2 !=0)=true:=by simpa using c9
         rw[g2];simp[-az,zK,results261];exact⟨cL 23 37 [(35,49)],by simp⟩
      ·have ee:i=n.vs.length:=by omega
       rw[if_pos ee]at g2;rw[g2];have JO:¬(i:Int)<(n.vs.length:Int):=by omega
       simp[-az,JO,results261];exact⟨[],by simp⟩
    ·have qS:((d:Int)==0)=false:=by simp;omega
     have hfw:vf d n=1:=by simp[vf,kT,c5]
     have rR:=d2.inner kT;have c6z:¬(n.ks=[]):=fun h=>by rw[h]at rR;simp at rR
     have c6y:¬(n.ks.length:Int)<1:=by omega
     cases c7:rP n lo hi with
     |false=>
      rw[c7]at hfit;have e:RR=(IC,dD c page,10):=by rw[hM,if_neg (by rw[c7];simp)]
      rw[e];simp[kT,qS,c6y];refine bZ hfit (by simp[kT]) ?_;simp[-az,dD,results261];exact⟨cL 23 24 [(35,23)],by simp⟩
     |true=>
      rw[c7]at hfit;have e:RR=jx (bA.eH f (d+1)) lo n.ks hi n.vs IC (dD c page):=by rw[hM,if_pos ⟨by rw[hfw];exact rR,c7⟩,if_neg c4]
      simp[kT,qS,c6y];refine bZ hfit (by simp[kT]) ?_;simp;rw[kT]at hvl;simp only[Bool.false_eq_true,if_false]at hvl;refine aL (fun y:Nat×Cs×Ck=>y.1<=n.vs.length/\(if y.1=n.vs.length then RR=(y.2.1,y.2.2,0)else RR=jx (bA.eH f (d+1)) (o9 lo n.ks y.1) (n.ks.drop y.1) hi (n.vs.drop y.1) y.2.1 y.2.2)/\zJ pn y.2.2/\-1<=y.2.2.dep/\y.2.2.dep<=40/\fL t y.2.1/\y.2.1.s.pn=pn) (fun y=>[(0,.obj 21 0),(2,.p (.int (d:Nat))),(3,.p (.str lo)),(4,.p (.str (hi.getD []))),(5,.p (.bool hi.isSome)),(13,.obj 36 0),(95,.p (.sl (n.vs.map PC.int))),(96,.p (.int n.vs.length)),(97,.p (.int y.1))]) (fun y=>⟨kg.B 0 23 y.2.1++[(20,cI root),(21,LK 35 y.2.2),(36,⟨341,3,[.p (.bool false),.p (.sl (n.ks.map PC.str)),.p (.sl (n.vs.map PC.int))]⟩)],kY 23++[(35,3,1)],37⟩) (fun y=>n.vs.length-y.1) (0,IC,dD c page) ⟨by simp,by rw[if_neg (by omega)];simpa[o9]using e,VF,Db,hc3,hok,T3.trans hpp⟩ _ (AS.le_refl _ _) (aB (cL 23 24 [(35,23),(36,36)]) (by simp[dD])) ?_;rintro⟨i,cc,cur⟩ ⟨g1,g2,g3,g4,g5,g6,g7⟩;simp only at g1 g2 g3 g4 g5 g6 g7;have wd:IntKind.i64.wrap (((d:Nat):Int)+1)=((d+1:Nat):Int):=by rw[aD];rfl
      have w11:IntKind.i64.wrap 1=1:=by decide
      have wi:=jq i;by_cases c8:i<n.vs.length
      ·rw[if_neg (by omega)]at g2;rw[List.drop_eq_getElem_cons c8]at g2;have p_:=d2.vals n.vs[i] (List.getElem_mem c8);have QW:i<n.ks.length\/i=n.ks.length:=by omega
       rcases QW with hik|hik
       ·have hik':(i:Int)<(n.ks.length:Int):=by omega
        rw[List.drop_eq_getElem_cons hik]at g2;simp only[jx]at g2;rcases Nat.eq_zero_or_pos i with h0|h0
        ·subst h0;have hl0:o9 lo n.ks 0=lo:=rfl;rw[hl0]at g2;have hi':=ih (d+1) n.vs[0] lo (some n.ks[0]) cc cur g6 g7 ⟨by have:=p_.1;omega,by have:=p_.2;omega⟩ (by omega) g3 g4 g5;have hn:=lg (t:=t) (pn:=pn) f (d+1) (by omega) cc n.vs[0] lo (some n.ks[0]) cur g6 g7 ⟨g4,g5⟩ g3;obtain⟨Q,hQ⟩:∃Q,bA.eH f (d+1) cc n.vs[0] lo (some n.ks[0]) cur=Q:=⟨_,rfl⟩;rw[hQ]at hi' hn g2;simp[c8,hik,wd,cI,LK];refine jI (rI 23 [20,21,35]) hi' ?_;by_cases c9:Q.2.2=0
         ·rw[if_pos c9]at g2;have PO:=hn.sn c9;have zK:(Q.2.2 !=0)=false:=by simpa using c9
          simp[zK];refine⟨1,Q.1,Q.2.1,⟨by omega,?_,PO,hn.dep.1,hn.dep.2,hn.ok,hn.hp⟩,by omega,aB (cL 23 37 [(35,49)]) (by simp[w11])⟩;rw[if_neg (by omega),g2];simp[o9,hik]
         ·have zK:(Q.2.2 !=0)=true:=by simpa using c9
          rw[if_neg c9]at g2;rw[g2];simp[-az,zK,results261];exact⟨cL 23 37 [(35,49)],by simp⟩
        ·have wm:IntKind.i64.wrap ((i:Int)-1)=((i-1:Nat):Int):=by rw[aD];omega
         have hlo:o9 lo n.ks i=n.ks[i-1]:=by
          obtain⟨j,rfl⟩:∃j,i=j+1:=⟨i-1,by omega⟩;simp only[o9,pR];rw[kq (by omega)];rfl
         have Zn:i-1<n.ks.length:=by omega
         have hgt:(0:Int)<(i:Int):=by omega
         rw[hlo]at g2;have hi':=ih (d+1) n.vs[i] n.ks[i-1] (some n.ks[i]) cc cur g6 g7 ⟨by have:=p_.1;omega,by have:=p_.2;omega⟩ (by omega) g3 g4 g5;have hn:=lg (t:=t) (pn:=pn) f (d+1) (by omega) cc n.vs[i] n.ks[i-1] (some n.ks[i]) cur g6 g7 ⟨g4,g5⟩ g3;obtain⟨Q,hQ⟩:∃Q,bA.eH f (d+1) cc n.vs[i] n.ks[i-1] (some n.ks[i]) cur=Q:=⟨_,rfl⟩;rw[hQ]at hi' hn g2;simp[c8,hik,hik',Zn,h0,wm,wd,cI,LK];refine jI (rI 23 [20,21,35]) hi' ?_;by_cases c9:Q.2.2=0
         ·rw[if_pos c9]at g2;have PO:=hn.sn c9;have zK:(Q.2.2 !=0)=false:=by simpa using c9
          simp[zK,wi];refine⟨i+1,Q.1,Q.2.1,⟨by omega,?_,PO,hn.dep.1,hn.dep.2,hn.ok,hn.hp⟩,by omega,aB (cL 23 37 [(35,49)]) (by simp)⟩;rw[if_neg (by omega),g2];simp[o9,hik]
         ·have zK:(Q.2.2 !=0)=true:=by simpa using c9
          rw[if_neg c9]at g2;rw[g2];simp[-az,zK,results261];exact⟨cL 23 37 [(35,49)],by simp⟩
       ·have hik':¬(i:Int)<(n.ks.length:Int):=by omega
        have hik'':¬i<n.ks.length:=by omega
        have hdr:n.ks.drop i=[]:=by rw[hik,List.drop_length]
        rw[hdr]at g2;simp only[jx]at g2;have h0:0<i:=by have:=d2.inner kT;omega
        have wm:IntKind.i64.wrap ((i:Int)-1)=((i-1:Nat):Int):=by rw[aD];omega
        have hlo:o9 lo n.ks i=n.ks[i-1]:=by
         obtain⟨j,rfl⟩:∃j,i=j+1:=⟨i-1,by omega⟩;simp only[o9,pR];rw[kq (by omega)];rfl
        have Zn:i-1<n.ks.length:=by omega
        have hgt:(0:Int)<(i:Int):=by omega
        rw[hlo]at g2;have hi':=ih (d+1) n.vs[i] n.ks[i-1] hi cc cur g6 g7 ⟨by have:=p_.1;omega,by have:=p_.2;omega⟩ (by omega) g3 g4 g5;have hn:=lg (t:=t) (pn:=pn) f (d+1) (by omega) cc n.vs[i] n.ks[i-1] hi cur g6 g7 ⟨g4,g5⟩ g3;obtain⟨Q,hQ⟩:∃Q,bA.eH f (d+1) cc n.vs[i] n.ks[i-1] hi cur=Q:=⟨_,rfl⟩;rw[hQ]at hi' hn g2;simp[c8,hik',Zn,h0,wm,wd,cI,LK];refine jI (rI 23 [20,21,35]) hi' ?_;by_cases c9:Q.2.2=0
        ·have PO:=hn.sn c9;have zK:(Q.2.2 !=0)=false:=by simpa using c9
         simp[zK,wi];refine⟨i+1,Q.1,Q.2.1,⟨by omega,?_,PO,hn.dep.1,hn.dep.2,hn.ok,hn.hp⟩,by omega,aB (cL 23 37 [(35,49)]) (by simp)⟩;rw[if_pos (by omega),g2,<-c9]
        ·have zK:(Q.2.2 !=0)=true:=by simpa using c9
         rw[g2];simp[-az,zK,results261];exact⟨cL 23 37 [(35,49)],by simp⟩
      ·have ee:i=n.vs.length:=by omega
       rw[if_pos ee]at g2;rw[g2];have JO:¬(i:Int)<(n.vs.length:Int):=by omega
       simp[-az,JO,results261];exact⟨[],by simp⟩
  ·rw[if_neg d2]at hM;have d3':(e !=0)=true:=by simpa using d2
   rw[hM];simp[-az,d3',dD,results261];exact⟨cL 23 24 [(35,23)],by simp⟩
end Go.Av
namespace Go.Av
open Go.Proofs Go.Proofs.Tryz Go.aT
open Go.cC (Nd rB nZ Key Ck)
theorem Nu(t:Nat)(c:Cs)(h:fL t c)(root:Int)(hroot:lD root):aE prog 170 [.obj 20 0] ⟨kg.B 0 8 c++[(20,cI root)],kY 8,21⟩ (.p (.int (bA.check c root).2)) ⟨kg.B 0 21 (bA.check c root).1++[(20,cI root)],kY 21,33⟩:=by
 refine ah (rs:=[_]) [10] [] [] func170 rfl ?_;unfold Go.cC.eu.check;by_cases c0:root=0
 ·subst c0;simp[-az,cI,results170];exact⟨cL 21 8 [],by simp⟩
 ·rw[if_neg c0];have QI:(root==0)=false:=by simpa using c0
  have hp:=TP t root c.s.pn h.s.pn.2 40 0 root [] none c ⟨[],-1⟩ h rfl hroot (by omega) ⟨by simp,by simp⟩ (by simp) (by simp);have Qo:aE prog 261 [.obj 21 0,.p (.int root),.p (.int ((0:Nat):Int)),.p (.str []),.p (.str (Option.getD none [])),.p (.bool (none:Option Key).isSome)] ⟨kg.B 0 8 c++[(20,cI root),(21,⟨374,3,[.obj 20 0,.p .nil,.p (.int (-1))]⟩)],kY 8,22⟩ _ _:=EV 21 1 3 1 ⟨374,3,[.obj 20 0,.p .nil,.p (.int (-1))]⟩ (by simp) rfl (BJ hp (by simp[Tb.bU,Tb.aP]) (by simp[Tb.bU,Tb.aP]) rfl);obtain⟨Q,hQ⟩:∃Q,bA.eH 40 0 c root [] none ⟨[],-1⟩=Q:=⟨_,rfl⟩;rw[hQ]at Qo⊢;simp[cI,QI];refine jI (rI 8 [20,21]) Qo ?_;simp[-az,results170];exact⟨cL 21 23 [],by simp⟩
end Go.Av
namespace Go.Av
open Go.Proofs Go.aT
end Go.Av
namespace Go.aT
open Go.Av
def St.uL(s:St)(key:List UInt8)(v:Int):=bA.oP ⟨s,[],[]⟩ s.root key v
def St.FO(s:St)(count:Int)(key:List UInt8)(v:Int):St×Int:=({((s.uL key v).s.s.commit (s.uL key v).root count).1 with sl:=dH ((s.uL key v).s.s.commit (s.uL key v).root count).1.sl (s.uL key v).s.old},((s.uL key v).s.s.commit (s.uL key v).root count).2.2)
end Go.aT
namespace Go.Av
open Go.Proofs Go.aT
end Go.Av
namespace Go.Av
open Go.Proofs Go.Proofs.Tryz Go.aT
theorem W5(g:FuncId)(caps:List PC)(p:Nat×Nat->Bool)(l:List (Nat×Nat))(hl:l.length<=1000000000000)(hg:∀x∈l,aq prog g (kF x::caps) (.bool (p x))):aq prog 311 [.sl (l.map kF),.fn (.func g) caps] (.int (fX p l)):=by
 refine ai (ys:=[_]) [] [] [] func311 rfl ?_;obtain⟨R,hR⟩:∃R,R=fX p l:=⟨_,rfl⟩;rw[<-hR];simp;refine bg (fun i:Nat=>i<=l.length/\∀x∈l.take i,p x=false) (fun i=>[(0,.p (.sl (l.map kF))),(1,.p (.fn (.func g) caps)),(7,.p (.int l.length)),(8,.p (.int i))]) (fun i=>l.length-i) 0 ⟨by simp,by simp⟩ (ak (by simp)) ?_;rintro i ⟨g1,g2⟩;have hf:=oz p l i g2 g1;rw[<-hR]at hf;by_cases ci:i<l.length
 ·have wi:=jq i;rw[List.drop_eq_getElem_cons ci]at hf;simp only[fX]at hf;simp[ci];refine bS (hg l[i] (List.getElem_mem ci)) ?_;cases hp:p l[i]with
  |true=>
   simp[hp]at hf;simp[hf,results311]
  |false=>
   simp[wi];refine⟨i+1,⟨by omega,fun a b hx=>?_⟩,by omega,ak (by simp)⟩;rw[iA ci,iR]at hx;rcases hx with hx|hx
   ·exact g2 _ hx
   ·simp at hx;rw[hx];exact hp
 ·rw[List.drop_eq_nil_of_le (by omega)]at hf;simp[fX]at hf;simp[ci,hf,results311]
theorem W6(g:FuncId)(caps:List PC)(p:Nat×Nat->Bool)(l:List (Nat×Nat))(hl:l.length<=1000000000000)(hg:∀x∈l,aq prog g (kF x::caps) (.bool (p x))):aq prog 231 [.sl (l.map kF),.fn (.func g) caps] (.bool (l.any p)):=by
 refine ai (ys:=[_]) [] [] [] func231 rfl ?_;simp;refine bS (W5 g caps p l hl hg) ?_;rw[<-rj];simp[results231]
theorem Sw(x:Nat×Nat)(L:List (List UInt8))(hx:x.2<=1000000000)(hL:L.length<=1000000000):aq prog 233 [kF x,.ref (.sl (L.map cy))] (.bool (decide (L.length<=x.2))):=by
 refine ai (ys:=[_]) [] [] [] func233 rfl ?_;simp[results233]
theorem RZ(s:St)(h:su s.rm)(L:List dh)(hL:L.length<=1000000)(hp:(s.rm.F.any fun x=>decide (L.length<=x.2))=true):aE prog 230 [.obj 17 0,.obj 18 0] ⟨(17,⟨32,1,[.obj 6 0]⟩)::(18,⟨93,1,[.p (.sl (L.map cy))]⟩)::bO 0 7 s,fh 7,19⟩ (.p (.bool true)) ⟨(17,⟨32,1,[.obj 6 0]⟩)::(18,⟨93,1,[.p (.sl (L.map cy))]⟩)::bO 0 7 s,fh 7,19⟩:=by
 have hN:=h.F.Lx h.n;have hlen:=h.F.len;have hnn:=h.n;have hr:=Wb 5 12 13 14 19 s.rm.n (by constructor<;>omega) s.rm.F s.rm.R s.rm.W (by omega);have ha:=W6 233 [.ref (.sl (L.map cy))] (fun x=>decide (L.length<=x.2)) s.rm.F (by omega) (fun x hx=>Sw x L (by have:=h.F.top x hx;omega) (by omega));rw[hp]at ha;refine ah (rs:=[_]) [] [] [] func230 rfl ?_;simp[bO,aG,aj,cM,bR,bN,cz];refine aA hr (by simp) (by simp[ay]) (by simp[ay]) rfl ?_;simp;refine bD ha ?_ rfl ?_
 ·exact⟨jM (by simp[lk]) rfl,⟨rfl,⟨_,_,rfl,rfl,rfl,⟨_,rfl,.inl rfl⟩⟩,trivial⟩,trivial⟩
 simp[-az,results230];exact⟨[],by simp⟩
end Go.Av
namespace Go.aT
open Go.Av
def kZ(e:cZ):List dh:=bn (frame (aC e.pack.length 2++e.pack))
def St.Cm(s:St)(e:cZ):Int×Int:=(s.rm.take (kZ e).length).2.1
def St.Gf(s:St)(e:cZ):aN×Int:=s.D.write (cG s.jn s.pn+(s.Cm e).1) (kZ e)
def St.Cn(s:St)(e:cZ):St:={s with rm:=(s.rm.take (kZ e).length).1,D:=(s.Gf e).1}
end Go.aT
namespace Go.Av
open Go.Proofs Go.Proofs.Tryz Go.aT
theorem DT{P:Program}{f:FuncId}{fn:Func}{c:Code}{xs rs:List AV}{r:AV}{tb aM:Tb}(md:List Nat)(cls:List (Nat×List (Nat×Cls)))(lab:List (Nat×Nat))(ot:List (Nat×OT))(hf:P.funcs[f]?=some fn)(hb:fn.body=some c)(hnm:(fn.name=="runtime.NumGoroutine")=false)(hk:codeOk cls ot fn.ntmps c=true)(hx:xs.length<=fn.ntmps)(hr:r=vX rs)(h:Sem P ⟨md,cls,lab,tb.nx,ot⟩ c (me xs tb) (tP P fn (DU tb.nx rs aM))):aE P f xs tb r aM:=by
 refine⟨⟨fn,hf,hnm,by rw[hb];rfl⟩,fun g w vs F hw hvs=>?_⟩;have:=sC (cx:=⟨md,cls,lab,tb.nx,ot⟩) hf hb hk hx rfl h hw hvs;refine this.mono ?_;rintro e w' ⟨us,zs,g',t,rfl,hle,hS,hR,rn,⟨h1,h2,h3,h4,h5,h6⟩,hto,oS⟩;refine⟨_,g'.ren (uM rn) aM.nx,rfl,G.kM hle (fC:=tb.nx) (fun i hi=>hw.fresh i (by omega)) h2 (fun i hi=>mH h1 hi),hS.ren h3 h4 h5 h6,?_⟩;rw[hr];exact ow (fI rs (fJ _ hR hto) oS)
theorem JU(t:Nat)(ht:t<=30000)(s:St)(h:jU t s)(e:cZ)(he:e.Ok)(hpk:e.yz=(e.pack,0))(hpl:e.pack.length<=8000)(hp:(s.rm.F.any fun x=>decide ((kZ e).length<=x.2))=true)(hx:0<=(s.Cm e).1/\(s.Cm e).1<=65536)(hr:s.rm.run (kZ e).length<s.rm.F.length)(hw:(s.Gf e).2=0):aE prog 147 [.obj 6 0,.p (dI e)] ⟨bO 0 7 s,fh 7,17⟩ (.agg true [.p (kG (s.Cm e)),.p (.int 0)]) ⟨bO 0 17 (s.Cn e),fh 17,27⟩:=by
 have hpa:=RY e he (by omega);rw[hpk]at hpa;have hfl:[aC e.pack.length 2,e.pack].flatten=aC e.pack.length 2++e.pack:=by simp
 have b2:(aC (e.pack.length:Int) 2).length=2:=by simp[aC]
 have hfr:=yP [aC e.pack.length 2,e.pack] (by rw[hfl,dU,b2];omega) (by simp);rw[hfl]at hfr;have aiY:=gH (aC e.pack.length 2++e.pack);rw[dU,b2]at aiY;have FD:=sD (frame (aC e.pack.length 2++e.pack)) (by omega);have Wh:=eO (frame (aC e.pack.length 2++e.pack));obtain⟨Z,hZ⟩:∃Z,s.Cn e=Z:=⟨_,rfl⟩;rw[hZ];unfold St.Cn at hZ;unfold St.Gf at hw hZ;unfold St.Cm at hx hw hZ⊢;unfold kZ at hp hx hr hw hZ⊢;generalize frame (aC e.pack.length 2++e.pack)=fr at*;generalize bn fr=L at*;have hLl:1<=L.length/\L.length<=1000:=by omega
 have hmk:=yw (.obj 6 0) (RZ s h.rm L (by omega) hp) (by simp[Tb.merge,bO,b_,del]) (by simp[ay,bO,aG,aj,cM,bR,bN,cz]) (by simp[ay]) (by simp) (by simp) (by simp[AV.to];exact .inl rfl) (by simp) (by simp[qm,bO,aG,aj,cM,bR,bN,cz]);have oK:=xH 5 12 13 14 20 (by constructor<;>omega) s.rm h.rm L.length (by omega) hr;have WR:=xH 5 12 13 14 21 (by constructor<;>omega) s.rm h.rm L.length (by omega) hr;have hn:(s.rm.take L.length).1.n=s.rm.n:=by unfold Mp.take;split<;>rfl
 obtain⟨M,hM⟩:∃M,s.rm.take L.length=M:=⟨_,rfl⟩;rw[hM]at hx hw hZ oK WR hn⊢;obtain⟨m',x,bb⟩:=M;simp only at hx hw hZ oK WR hn⊢;have Q0:=h.pn;have hjn:=h.jn;have Ai:cG s.jn s.pn=1+s.jn+s.pn*8:=rfl;have C9:=yM s.jn s.pn (by omega) (by omega);have w3:IntKind.i64.wrap (cG s.jn s.pn+x.1)=cG s.jn s.pn+x.1:=aD;have hwr:=q_ s.D (t*t) h.D (cG s.jn s.pn+x.1) (by omega) L (by omega) (by have:=R_ ht;omega);obtain⟨Y,hY⟩:∃Y,s.D.write (cG s.jn s.pn+x.1) L=Y:=⟨_,rfl⟩;rw[hY]at hwr hw hZ;obtain⟨D',e'⟩:=Y;simp only at hwr hw hZ;subst hw;have h8:IntKind.u8.wrap ((e.pack.length:Int).fdiv (2^min 8 IntKind.i64.bits))=((wF ((e.pack.length:Int)/2^8)).toNat:Int):=by
  have e2:min 8 IntKind.i64.bits=8:=rfl;rw[e2,Int.fdiv_eq_ediv_of_nonneg _ (Int.le_of_lt (Int.pow_pos (by omega))),mX]
 have h0:=mX (e.pack.length:Int);have UJ:aC (e.pack.length:Int) 2=[wF ((e.pack.length:Int)/2^8),wF (e.pack.length:Int)]:=by
  show[wF ((e.pack.length:Int)/2^8),wF ((e.pack.length:Int)/2^0)]=_;simp
 have hf2:aq prog 178 [.sl [.sl [.sc (.int .u8 ((wF ((e.pack.length:Int)/2^8)).toNat:Int)),.sc (.int .u8 ((wF (e.pack.length:Int)).toNat:Int))],cy e.pack]] (cy fr):=by
  have:=hfr;rw[UJ]at this;exact this
 refine DT (rs:=[_,_]) [2] [(10,[(0,.r 1),(4,.r 2),(5,.r 1),(8,.r 2),(9,.w [1,2,3,4]),(11,.r 4),(13,.r 3),(14,.w [1,2,3,4])])] [(1,17),(2,6),(3,19),(4,22)] [(9,(.br 0 (.one 1 (.one 2 (.br 3 (.br 4 (.one 5 (.br 6 (.one 7 (.one 8 (.one 9 (.br 10 (.br 11 (.br 12 .lf .lf) .lf) .lf)))) (.br 10 (.br 6 (.one 7 (.one 8 (.one 9 (.br 11 (.br 12 .lf .lf) .lf)))) .lf) .lf))) (.br 10 (.br 4 (.one 5 (.br 6 (.one 7 (.one 8 (.one 9 (.br 11 (.br 12 .lf .lf) .lf)))) .lf)) .lf) .lf)) (.br 4 (.one 5 (.br 3 (.br 6 (.one 7 (.one 8 (.one 9 (.br 10 (.br 11 (.br 12 .lf .lf) .lf) .lf)))) (.br 10 (.br 6 (.one 7 (.one 8 (.one 9 (.br 11 (.br 12 .lf .lf) .lf)))) .lf) .lf)) (.br 10 (.br 3 (.br 6 (.one 7 (.one 8 (.one 9 (.br 11 (.br 12 .lf .lf) .lf)))) .lf) .lf) .lf))) (.br 10 (.br 3 (.br 4 (.one 5 (.br 6 (.one 7 (.one 8 (.one 9 (.br 11 (.br 12 .lf .lf) .lf)))) .lf)) .lf) (.br 4 (.one 5 (.br 3 (.br 6 (.one 7 (.one 8 (.one 9 (.br 11 (.br 12 .lf .lf) .lf)))) .lf) .lf)) .lf)) .lf))))) (.br 4 (.one 5 (.br 0 (.one 1 (.one 2 (.br 3 (.br 6 (.one 7 (.one 8 (.one 9 (.br 10 (.br 11 (.br 12 .lf .lf) .lf) .lf)))) (.br 10 (.br 6 (.one 7 (.one 8 (.one 9 (.br 11 (.br 12 .lf .lf) .lf)))) .lf) .lf)) (.br 10 (.br 3 (.br 6 (.one 7 (.one 8 (.one 9 (.br 11 (.br 12 .lf .lf) .lf)))) .lf) .lf) .lf)))) (.br 10 (.br 0 (.one 1 (.one 2 (.br 3 (.br 6 (.one 7 (.one 8 (.one 9 (.br 11 (.br 12 .lf .lf) .lf)))) .lf) .lf))) .lf) .lf))) (.br 10 (.br 0 (.one 1 (.one 2 (.br 3 (.br 4 (.one 5 (.br 6 (.one 7 (.one 8 (.one 9 (.br 11 (.br 12 .lf .lf) .lf)))) .lf)) .lf) (.br 4 (.one 5 (.br 3 (.br 6 (.one 7 (.one 8 (.one 9 (.br 11 (.br 12 .lf .lf) .lf)))) .lf) .lf)) .lf)))) (.br 4 (.one 5 (.br 0 (.one 1 (.one 2 (.br 3 (.br 6 (.one 7 (.one 8 (.one 9 (.br 11 (.br 12 .lf .lf) .lf)))) .lf) .lf))) .lf)) .lf)) .lf))))] func147 rfl (by kernel_rfl) (by kernel_rfl) (by simp[ntmps147]) rfl ?_;refine bM mixed (fun _:Unit=>True) (fun _=>[(2,.obj 17 0),(3,.p (.ref (dI e))),(4,.obj 18 0)]) (fun _=>⟨(17,⟨32,1,[.obj 6 0]⟩)::(18,⟨157,2,[.p (.int 0),.p (.int 0)]⟩)::bO 0 7 s,fh 7,19⟩) ?_ (fun _ _=>?_)
 ·simp[bO,aG,aj,cM,bR,bN,cz];exact ak (by simp)
 refine bM mixed (fun _:Unit=>True) (fun _=>[(2,.obj 17 0),(3,.p (.ref (dI e))),(4,.obj 18 0),(6,.p (cy e.pack)),(7,.p (.int 0))]) (fun _=>⟨(17,⟨32,1,[.obj 6 0]⟩)::(18,⟨157,2,[.p (.int 0),.p (.int 0)]⟩)::bO 0 7 s,fh 7,19⟩) ?_ (fun _ _=>?_)
 ·simp[bO,aG,aj,cM,bR,bN,cz];refine bS hpa ?_;simp;exact ak (by simp)
 refine bM mixed (fun _:Unit=>True) (fun _=>[(2,.obj 17 0),(3,.p (.ref (dI e))),(4,.obj 18 0),(6,.p (cy e.pack))]) (fun _=>⟨(17,⟨32,1,[.obj 6 0]⟩)::(18,⟨157,2,[.p (.int 0),.p (.int 0)]⟩)::bO 0 7 s,fh 7,19⟩) ?_ (fun _ _=>?_)
 ·simp[bO,aG,aj,cM,bR,bN,cz];exact ak (by simp)
 refine bM mixed (fun _:Unit=>True) (fun _=>[(2,.obj 17 0),(3,.p (.ref (dI e))),(4,.obj 18 0),(8,.obj 19 0)]) (fun _=>⟨(19,⟨93,1,[.p (.sl (L.map cy))]⟩)::(17,⟨32,1,[.obj 6 0]⟩)::(18,⟨157,2,[.p (.int 0),.p (.int 0)]⟩)::bO 0 7 s,fh 7,20⟩) ?_ (fun _ _=>?_)
 ·simp[h8,h0,bO,aG,aj,cM,bR,bN,cz];refine bS hf2 ?_;simp;refine bS FD ?_;simp;exact ak (by simp)
 refine bM mixed (fun _:Unit=>True) (fun _=>[(2,.obj 17 0),(3,.p (.ref (dI e))),(4,.obj 18 0),(8,.obj 19 0),(9,.lJ (.func 230) [.obj 17 0,.obj 19 0])]) (fun _=>⟨(19,⟨93,1,[.p (.sl (L.map cy))]⟩)::(17,⟨32,1,[.obj 6 0]⟩)::(18,⟨157,2,[.p (.int 0),.p (.int 0)]⟩)::bO 0 7 s,fh 7,20⟩) ?_ (fun _ _=>?_)
 ·simp[bO,aG,aj,cM,bR,bN,cz];exact ak (by simp)
 refine bM mixed (fun _:Unit=>True) (fun _=>[(2,.obj 17 0),(3,.p (.ref (dI e))),(4,.obj 18 0),(8,.obj 19 0)]) (fun _=>⟨(19,⟨93,1,[.p (.sl (L.map cy))]⟩)::(17,⟨32,1,[.obj 6 0]⟩)::(18,⟨157,2,[.p (.int 0),.p (.int 0)]⟩)::bO 0 7 s,fh 7,20⟩) ?_ (fun _ _=>?_)
 ·simp[bO,aG,aj,cM,bR,bN,cz];refine Fy [0,1,2,3,4,5,6,7,8,9,10,11,12,13,14,15,16,17,19] hmk ?_;simp[bO,aG,aj,cM,bR,bN,cz];exact ak (by simp)
 refine bM mixed (fun _:Unit=>True) (fun _=>[(2,.obj 17 0),(4,.obj 18 0),(8,.obj 19 0),(10,.obj 22 0)]) (fun _=>⟨(22,⟨157,2,[.p (.int x.1),.p (.int x.2)]⟩)::(19,⟨93,1,[.p (.sl (L.map cy))]⟩)::(17,⟨32,1,[.obj 6 0]⟩)::(18,⟨157,2,[.p (.int 0),.p (.int 0)]⟩)::[(0,aG 0 7 s.D),(1,aj s.D.kept),(2,aj s.D.now),(3,fy 0 8 s.J),(4,cM 9 s.sl),(5,iQ s.rm.n 20 21 14 m'.F m'.R m'.W),(6,bR 0 7 s),(9,cg s.sl.F),(10,cg s.sl.R),(11,cg s.sl.W),(20,cg m'.F),(21,cg m'.R),(14,cg m'.W),(15,bN s.ix),(16,cz s.k_)],fh 7,23⟩) ?_ (fun _ _=>?_)
 ·simp[bO,aG,aj,cM,bR,bN,cz]
  repeat' refine And.intro ?_ ?_
  all_goals first
   |(refine aA oK (by simp) (by simp[ay]) (by simp[ay]) rfl ?_;simp;exact ak (by simp))
   |(refine aA WR (by simp) (by simp[ay]) (by simp[ay]) rfl ?_;simp;exact aB [(20,21),(21,22),(22,20)] (by simp))
 refine iH mixed ?_;simp[bO,aG,aj,cM,bR,bN,cz];refine jI [0] C9 ?_;simp[w3];refine qU [0,1,2,7] hwr ?_;rw[<-hZ];simp[-az,aj,hn,results147];exact⟨[(17,23),(18,8),(19,9),(20,10),(21,11),(22,20),(23,21),(24,14),(25,15),(26,16)],by simp⟩
end Go.Av
namespace Go.aT
open Go.Av
theorem Ny(x:Int)(n:Nat)(hx:0<=x):aC x (n+1)=aC (x/256) n++[wF x]:=by
 unfold aC;rw[List.range_succ,List.map_append];congr 1
 ·apply List.map_congr_left;intro j hj;have hj:=List.mem_range.1 hj;rw[show 8*(n+1-1-j)=8+8*(n-1-j) by omega,Int.pow_add,Int.ediv_ediv_of_nonneg (by decide)];rfl
 ·simp
theorem RX(x:Int)(hx:0<=x):(wF x).toNat=x.toNat%256:=by
 unfold wF;simp;omega
theorem DS:∀(n:Nat) (x:Int),0<=x->x<256^n->(jA (aC x n):Int)=x
 |0,x,h,h2=>by simp[aC,jA];simp at h2;omega
 |n+1,x,h,h2=>by
  have h3:x/256<256^n:=by rw[Int.pow_succ]at h2;omega
  rw[Ny x n h,kE,RX x h];have:=DS n (x/256) (by omega) h3;omega
theorem uQ(n:Nat)(x:Int)(h:0<=x)(h2:x<256^n)(h3:x<9223372036854775808):cq (aC x n)=x:=by
 unfold cq;rw[DS n x h h2];exact aD
def kL(s:List UInt8):List UInt8:=aC s.length 2++s
theorem JR(s:List UInt8)(l:List (List UInt8)):aY (s::l)=kL s++aY l:=by simp[aY,kL]
end Go.aT
namespace Go.Av
open Go.Proofs Go.Proofs.Tryz Go.aT
theorem vh(x:Int)(n:Nat)(r:List UInt8)(hr:r.length<=100000000)(hn:n<=8)(h:0<=x)(h2:x<256^n)(h3:x<9223372036854775808):aE prog 330 [.obj 0 0,.p (.int n)] ⟨[(0,FE (aC x n++r))],[],1⟩ (.p (.int x)) ⟨[(0,FE r)],[],1⟩:=by
 have h:=yO (aC x n++r) (by simp[aW];omega) n (by simp[aW]);rw[List.take_left' (aW x n),List.drop_left' (aW x n),uQ n x ‹_› h2 h3]at h;exact h
theorem JS(s r:List UInt8)(hr:r.length<=100000000)(h:s.length<65536):aE prog 331 [.obj 0 0] ⟨[(0,FE (kL s++r))],[],1⟩ (.p (.str s)) ⟨[(0,FE r)],[],1⟩:=by
 have hl:=aW (s.length:Int) 2;have h:=Nz (kL s++r) (by simp[kL,aW];omega) s.length (by simp[kL,aW]) (by rw[kL,List.append_assoc,List.take_left' hl,uQ 2 s.length (by omega) (by simp;omega) (by omega)]) (by simp[kL,aW];try omega);rw[kL,List.append_assoc,List.drop_left' hl,List.take_left' rfl]at h;rw[show 2+s.length=(aC s.length 2++s).length by simp[aW],<-List.append_assoc,List.drop_left' rfl]at h;rw[kL,List.append_assoc];rwa[List.append_assoc]at h
end Go.Av
namespace Go.aT
open Go.Av (aY)
def tM(f:Go.Av.Fd):List UInt8:=kL f.1++kL f.2
def sB(x:Int×Int):List UInt8:=aC x.1 4++aC x.2 4
theorem HT(e:cZ):e.pack=aC 69 1++(aC e.st.st 2++(aC e.st.mi 1++(aC e.asked 8++(aC e.got 8++(aC e.order 8++(aC e.size 4++(aC e.sum 4++(kL e.uri++(kL e.var++(kL e.st.r++(aC e.names.length 1++(aY e.names++(aC e.fields.length 1++(e.fields.flatMap tM++(aC e.body.length 1++e.body.flatMap sB))))))))))))))):=by
 have h69:aC 69 1=[69]:=by decide
 have hf:(e.fields.flatMap fun f=>aY [f.1,f.2])=e.fields.flatMap tM:=by
  congr 1;funext f;simp[aY,tM,kL]
 have hb:(e.body.flatMap fun x=>aC x.1 4++aC x.2 4)=e.body.flatMap sB:=rfl;simp only[cZ.pack,cZ.h4,cZ.h3,cZ.h2,cZ.h1,hf,hb];simp[aY,kL,h69,List.append_assoc]
theorem vi{α β:Type}(f:α->List β)(l:List α)(k:Nat):((l.drop k).flatMap f).length<=(l.flatMap f).length:=by
 conv=>rhs;rw[<-List.take_append_drop k l,List.flatMap_append,List.length_append]
 omega
structure WG(e:cZ):Prop where
 st:0<=e.st.st/\e.st.st<65536
 mi:0<=e.st.mi/\e.st.mi<256
 asked:0<=e.asked/\e.asked<9223372036854775808
 got:0<=e.got/\e.got<9223372036854775808
 order:0<=e.order/\e.order<9223372036854775808
 size:0<=e.size/\e.size<4294967296
 sum:e.sum<4294967296
 uri:e.uri.length<65536
 var:e.var.length<65536
 r:e.st.r.length<65536
 nl:e.names.length<256
 ns:∀s∈e.names,s.length<65536
 fl:e.fields.length<256
 fs:∀f∈e.fields,f.1.length<65536/\f.2.length<65536
 bl:e.body.length<256
 bs:∀x∈e.body,(0<=x.1/\x.1<4294967296)/\0<=x.2/\x.2<4294967296
end Go.aT
namespace Go.Av
open Go.Proofs Go.Proofs.Tryz Go.aT
theorem JX(e:cZ)(h:WG e)(hp:e.pack.length<=10000)(hm:e.st.m=[])(ht:e.st.t=[]):aE prog 253 [.obj 0 0] ⟨[(0,FE e.pack)],[],1⟩ (.p (dI e)) ⟨[(0,FE [])],[],1⟩:=by
 rw[HT]at hp⊢;obtain⟨R16,h16⟩:∃r,e.body.flatMap sB=r:=⟨_,rfl⟩;rw[h16]at hp⊢;obtain⟨UK,h15⟩:∃r,aC e.body.length 1++R16=r:=⟨_,rfl⟩;rw[h15]at hp⊢;obtain⟨R14,h14⟩:∃r,e.fields.flatMap tM++UK=r:=⟨_,rfl⟩;rw[h14]at hp⊢;obtain⟨WU,h13⟩:∃r,aC e.fields.length 1++R14=r:=⟨_,rfl⟩;rw[h13]at hp⊢;obtain⟨R12,h12⟩:∃r,aY e.names++WU=r:=⟨_,rfl⟩;rw[h12]at hp⊢;obtain⟨R11,h11⟩:∃r,aC e.names.length 1++R12=r:=⟨_,rfl⟩;rw[h11]at hp⊢;obtain⟨R10,h10⟩:∃r,kL e.st.r++R11=r:=⟨_,rfl⟩;rw[h10]at hp⊢;obtain⟨R9,h9⟩:∃r,kL e.var++R10=r:=⟨_,rfl⟩;rw[h9]at hp⊢;obtain⟨R8,h8⟩:∃r,kL e.uri++R9=r:=⟨_,rfl⟩;rw[h8]at hp⊢;obtain⟨R7,h7⟩:∃r,aC e.sum 4++R8=r:=⟨_,rfl⟩;rw[h7]at hp⊢;obtain⟨R6,h6⟩:∃r,aC e.size 4++R7=r:=⟨_,rfl⟩;rw[h6]at hp⊢;obtain⟨R5,h5⟩:∃r,aC e.order 8++R6=r:=⟨_,rfl⟩;rw[h5]at hp⊢;obtain⟨R4,h4⟩:∃r,aC e.got 8++R5=r:=⟨_,rfl⟩;rw[h4]at hp⊢;obtain⟨R3,h3⟩:∃r,aC e.asked 8++R4=r:=⟨_,rfl⟩;rw[h3]at hp⊢;obtain⟨R2,h2⟩:∃r,aC e.st.mi 1++R3=r:=⟨_,rfl⟩;rw[h2]at hp⊢;obtain⟨R1,h1⟩:∃r,aC e.st.st 2++R2=r:=⟨_,rfl⟩;rw[h1]at hp⊢;obtain⟨R0,h0⟩:∃r,aC 69 1++R1=r:=⟨_,rfl⟩;rw[h0]at hp⊢;have l0:R0.length<=10000:=hp;have l1:R1.length<=10000:=by rw[<-h0]at l0;simp only[List.length_append]at l0;omega
 have l2:R2.length<=10000:=by rw[<-h1]at l1;simp only[List.length_append]at l1;omega
 have l3:R3.length<=10000:=by rw[<-h2]at l2;simp only[List.length_append]at l2;omega
 have l4:R4.length<=10000:=by rw[<-h3]at l3;simp only[List.length_append]at l3;omega
 have l5:R5.length<=10000:=by rw[<-h4]at l4;simp only[List.length_append]at l4;omega
 have l6:R6.length<=10000:=by rw[<-h5]at l5;simp only[List.length_append]at l5;omega
 have l7:R7.length<=10000:=by rw[<-h6]at l6;simp only[List.length_append]at l6;omega
 have l8:R8.length<=10000:=by rw[<-h7]at l7;simp only[List.length_append]at l7;omega
 have l9:R9.length<=10000:=by rw[<-h8]at l8;simp only[List.length_append]at l8;omega
 have l10:R10.length<=10000:=by rw[<-h9]at l9;simp only[List.length_append]at l9;omega
 have l11:R11.length<=10000:=by rw[<-h10]at l10;simp only[List.length_append]at l10;omega
 have l12:R12.length<=10000:=by rw[<-h11]at l11;simp only[List.length_append]at l11;omega
 have l13:WU.length<=10000:=by rw[<-h12]at l12;simp only[List.length_append]at l12;omega
 have l14:R14.length<=10000:=by rw[<-h13]at l13;simp only[List.length_append]at l13;omega
 have l15:UK.length<=10000:=by rw[<-h14]at l14;simp only[List.length_append]at l14;omega
 have l16:R16.length<=10000:=by rw[<-h15]at l15;simp only[List.length_append]at l15;omega
 have c0:=vh 69 1 R1 (by omega) (by omega) (by omega) (by simp) (by omega);rw[h0]at c0;have c1:=vh e.st.st 2 R2 (by omega) (by omega) h.st.1 (by have:=h.st;simp;omega) (by have:=h.st;omega);rw[h1]at c1;have c2:=vh e.st.mi 1 R3 (by omega) (by omega) h.mi.1 (by have:=h.mi;simp;omega) (by have:=h.mi;omega);rw[h2]at c2;have c3:=vh e.asked 8 R4 (by omega) (by omega) h.asked.1 (by have:=h.asked;simp;omega) (by have:=h.asked;omega);rw[h3]at c3;have c4:=vh e.got 8 R5 (by omega) (by omega) h.got.1 (by have:=h.got;simp;omega) (by have:=h.got;omega);rw[h4]at c4;have c5:=vh e.order 8 R6 (by omega) (by omega) h.order.1 (by have:=h.order;simp;omega) (by have:=h.order;omega);rw[h5]at c5;have c6:=vh e.size 4 R7 (by omega) (by omega) h.size.1 (by have:=h.size;simp;omega) (by have:=h.size;omega);rw[h6]at c6;have c7:=vh e.sum 4 R8 (by omega) (by omega) (by omega) (by have:=h.sum;simp;omega) (by have:=h.sum;omega);rw[h7]at c7;have c8:=JS e.uri R9 (by omega) h.uri;rw[h8]at c8;have c9:=JS e.var R10 (by omega) h.var;rw[h9]at c9;have c10:=JS e.st.r R11 (by omega) h.r;rw[h10]at c10;have c11:=vh e.names.length 1 R12 (by omega) (by omega) (by omega) (by have:=h.nl;simp;omega) (by have:=h.nl;omega);rw[h11]at c11;have c13:=vh e.fields.length 1 R14 (by omega) (by omega) (by omega) (by have:=h.fl;simp;omega) (by have:=h.fl;omega);rw[h13]at c13;have c15:=vh e.body.length 1 R16 (by omega) (by omega) (by omega) (by have:=h.bl;simp;omega) (by have:=h.bl;omega);rw[h15]at c15;have aiZ:IntKind.u32.wrap (e.sum:Int)=(e.sum:Int):=Cf h.sum;refine ah (rs:=[_]) [] [(10,[(1,.r 1),(3,.w [1]),(5,.f [1,2]),(7,.s 1 [2])])] [(1,2),(2,0)] func253 rfl ?_;simp;refine jI [0] c0 ?_;simp;refine jI [0] c1 ?_;simp;refine jI [0] c2 ?_;simp;refine jI [0] c3 ?_;simp;refine jI [0] c4 ?_;simp;refine jI [0] c5 ?_;simp;refine jI [0] c6 ?_;simp;refine jI [0] c7 ?_;simp;refine jI [0] c8 ?_;simp;refine jI [0] c9 ?_;simp;refine jI [0] c10 ?_;simp;refine jI [0] c11 ?_;simp;refine aL (fun k:Nat=>k<=e.names.length) (fun k=>[(0,.obj 0 0),(2,.obj 1 0),(3,.obj 2 0),(48,.p (.int e.names.length)),(49,.p (.int k))]) (fun k=>⟨[(0,FE (aY (e.names.drop k)++WU)),(1,⟨49,15,[.p (.str []),.p .nil,.p (.str []),.p (.str []),.p (.str []),.p (.int 0),.p (.str []),.p (.int 0),.p .nil,.p (.int 0),.p (.int 0),.p (.int 0),.p (.int 0),.p (nj 0),.p .nil]⟩),(2,⟨49,15,[.p (.str e.uri),.own 3 ((e.names.take k).map PC.str),.p (.str e.var),.p (.str []),.p (.str []),.p (.int e.st.st),.p (.str e.st.r),.p (.int e.st.mi),.p .nil,.p (.int e.asked),.p (.int e.got),.p (.int e.order),.p (.int e.size),.p (nj e.sum),.p .nil]⟩)],[(3,9,1)],4⟩) (fun k=>e.names.length-k) 0 (by simp) _ (ja 2 1 9 1 _ [] rfl (.inr ⟨rfl,rfl⟩)) (ak (by simp[h12,aiZ])) ?_;intro k hk;by_cases ck:k<e.names.length
 ·have wk:IntKind.i64.wrap ((k:Int)+1)=((k+1:Nat):Int):=by rw[bf (by have:=h.nl;omega) (by have:=h.nl;omega)];rfl
  have hd:aY (e.names.drop k)++WU=kL e.names[k]++(aY (e.names.drop (k+1))++WU):=by rw[List.drop_eq_getElem_cons ck,JR,List.append_assoc]
  have hlen:(aY (e.names.drop (k+1))++WU).length<=100000:=by
   have hle:(aY (e.names.drop (k+1))).length<=(aY e.names).length:=vi _ _ _;have:=congrArg List.length h12;simp only[List.length_append]at this⊢;omega
  have ct:=JS e.names[k] (aY (e.names.drop (k+1))++WU) (by omega) (h.ns _ (List.getElem_mem ck));rw[<-hd]at ct;have Wv:=h.nl;simp[ck];refine jI [0] ct ?_;simp[wk];have hts:List.take (k+1) (List.map PC.str e.names)=List.take k (List.map PC.str e.names)++[PC.str e.names[k]]:=by rw[List.take_succ_eq_append_getElem (by simpa using ck)];simp
  exact⟨fun x hx=>by obtain⟨f,_,rfl⟩:=List.mem_map.1 (List.mem_of_mem_take hx);rfl,by omega,by omega,k+1,by omega,by omega,aB [(3,4)] (by simp[hts])⟩
 ·obtain rfl:k=e.names.length:=by omega
  simp[aY];refine jI [0] c13 ?_;simp;refine aL (fun k:Nat=>k<=e.fields.length) (fun k=>[(0,.obj 0 0),(2,.obj 1 0),(3,.obj 2 0),(60,.p (.int e.fields.length)),(61,.p (.int k))]) (fun k=>⟨[(0,FE ((e.fields.drop k).flatMap tM++UK)),(1,⟨49,15,[.p (.str []),.p .nil,.p (.str []),.p (.str []),.p (.str []),.p (.int 0),.p (.str []),.p (.int 0),.p .nil,.p (.int 0),.p (.int 0),.p (.int 0),.p (.int 0),.p (nj 0),.p .nil]⟩),(2,⟨49,15,[.p (.str e.uri),.own 3 (e.names.map PC.str),.p (.str e.var),.p (.str []),.p (.str []),.p (.int e.st.st),.p (.str e.st.r),.p (.int e.st.mi),.own 4 ((e.fields.take k).map nX),.p (.int e.asked),.p (.int e.got),.p (.int e.order),.p (.int e.size),.p (nj e.sum),.p .nil]⟩)],[(3,9,1),(4,139,2)],5⟩) (fun k=>e.fields.length-k) 0 (by simp) _ (ja 2 8 139 2 _ [] rfl (.inr ⟨rfl,rfl⟩)) (ak (by simp[h14])) ?_;intro k hk;by_cases ck:k<e.fields.length
  ·have wk:IntKind.i64.wrap ((k:Int)+1)=((k+1:Nat):Int):=by rw[bf (by have:=h.fl;omega) (by have:=h.fl;omega)];rfl
   have hd:(e.fields.drop k).flatMap tM++UK=kL e.fields[k].1++(kL e.fields[k].2++((e.fields.drop (k+1)).flatMap tM++UK)):=by
    rw[List.drop_eq_getElem_cons ck,List.flatMap_cons,tM];simp only[List.append_assoc]
   have hlen:((e.fields.drop k).flatMap tM++UK).length<=100000:=by
    have hle:((e.fields.drop k).flatMap tM).length<=(e.fields.flatMap tM).length:=vi _ _ _;have:=congrArg List.length h14;simp only[List.length_append]at this⊢;omega
   rw[hd]at hlen;simp only[List.length_append]at hlen;obtain⟨f1,f2⟩:=h.fs _ (List.getElem_mem ck);have ct:=JS e.fields[k].1 (kL e.fields[k].2++((e.fields.drop (k+1)).flatMap tM++UK)) (by simp only[List.length_append];omega) f1;have ct2:=JS e.fields[k].2 ((e.fields.drop (k+1)).flatMap tM++UK) (by simp only[List.length_append];omega) f2;rw[<-hd]at ct;have Wv:=h.fl;simp[ck];refine jI [0] ct ?_;simp;refine jI [0] ct2 ?_;simp[wk];have hts:List.take (k+1) (List.map nX e.fields)=List.take k (List.map nX e.fields)++[nX e.fields[k]]:=by rw[List.take_succ_eq_append_getElem (by simpa using ck)];simp
   exact⟨fun x hx=>by obtain⟨f,_,rfl⟩:=List.mem_map.1 (List.mem_of_mem_take hx);rfl,by omega,by omega,k+1,by omega,by omega,aB [(4,6)] (by simp[hts])⟩
  ·obtain rfl:k=e.fields.length:=by omega
   simp;refine jI [0] c15 ?_;simp;refine aL (fun k:Nat=>k<=e.body.length) (fun k=>[(0,.obj 0 0),(2,.obj 1 0),(3,.obj 2 0),(77,.p (.int e.body.length)),(78,.p (.int k))]) (fun k=>⟨[(0,FE ((e.body.drop k).flatMap sB)),(1,⟨49,15,[.p (.str []),.p .nil,.p (.str []),.p (.str []),.p (.str []),.p (.int 0),.p (.str []),.p (.int 0),.p .nil,.p (.int 0),.p (.int 0),.p (.int 0),.p (.int 0),.p (nj 0),.p .nil]⟩),(2,⟨49,15,[.p (.str e.uri),.own 3 (e.names.map PC.str),.p (.str e.var),.p (.str []),.p (.str []),.p (.int e.st.st),.p (.str e.st.r),.p (.int e.st.mi),.own 4 (e.fields.map nX),.p (.int e.asked),.p (.int e.got),.p (.int e.order),.p (.int e.size),.p (nj e.sum),.own 5 ((e.body.take k).map kG)]⟩)],[(3,9,1),(4,139,2),(5,157,2)],6⟩) (fun k=>e.body.length-k) 0 (by simp) _ (ja 2 14 157 2 _ [] rfl (.inr ⟨rfl,rfl⟩)) (ak (by simp[h16])) ?_;intro k hk;by_cases ck:k<e.body.length
   ·have wk:IntKind.i64.wrap ((k:Int)+1)=((k+1:Nat):Int):=by rw[bf (by have:=h.bl;omega) (by have:=h.bl;omega)];rfl
    have hd:(e.body.drop k).flatMap sB=aC e.body[k].1 4++(aC e.body[k].2 4++(e.body.drop (k+1)).flatMap sB):=by
     rw[List.drop_eq_getElem_cons ck,List.flatMap_cons,sB];simp only[List.append_assoc]
    have hlen:((e.body.drop k).flatMap sB).length<=100000:=by
     have hle:((e.body.drop k).flatMap sB).length<=(e.body.flatMap sB).length:=vi _ _ _;rw[h16]at hle;omega
    rw[hd]at hlen;simp only[List.length_append]at hlen;obtain⟨⟨f1,f2⟩,f3,f4⟩:=h.bs _ (List.getElem_mem ck);have ct:=vh e.body[k].1 4 (aC e.body[k].2 4++(e.body.drop (k+1)).flatMap sB) (by simp only[List.length_append];omega) (by omega) f1 (by simp;omega) (by omega);have ct2:=vh e.body[k].2 4 ((e.body.drop (k+1)).flatMap sB) (by omega) (by omega) f3 (by simp;omega) (by omega);rw[<-hd]at ct;have Wv:=h.bl;simp[ck];refine jI [0] ct ?_;simp;refine jI [0] ct2 ?_;simp[wk];have hts:List.take (k+1) (List.map kG e.body)=List.take k (List.map kG e.body)++[kG e.body[k]]:=by rw[List.take_succ_eq_append_getElem (by simpa using ck)];simp
    exact⟨fun x hx=>by obtain⟨f,_,rfl⟩:=List.mem_map.1 (List.mem_of_mem_take hx);rfl,by omega,by omega,k+1,by omega,by omega,aB [(5,7)] (by simp[hts])⟩
   ·obtain rfl:k=e.body.length:=by omega
    simp[-az,results253];exact⟨[],by simp[hm,ht]⟩
theorem QV:Idle prog 252:=by
 intro args w;refine callsD_of_wpS (c:=Tryz.f252.body.get!) func252 rfl ?_;intro c₀ cs hc;have hsz:9<=(args++Array.replicate (Tryz.f252.ntmps-args.size) undef).size:=by
  have:Tryz.f252.ntmps=9:=rfl;simp;omega
 generalize args++Array.replicate (Tryz.f252.ntmps-args.size) undef=ts at hsz;show Code.wpS _ (Code.seq _ _) _ _ _ _;refine wpS_seq (wpS_region ?_);have hr:recoverD (c₀::cs)=none:=by
  obtain⟨⟩:=c₀;simp at hc;subst hc;rfl
 have hrun:∀(a:Act),(execOp a.eval {dst:=some 3,op:=Go.Op.call {callee:=Go.Callee.builtin Go.Builtin.recover,args:=#[],argTypes:=#[]},type:=20,pos:="entry.go:176",after:=#[],guard:=none}).run prog w= .ok .recover w:=by
  intro a;rfl
 have h2:2<ts.size:=by omega
 have h3:3<ts.size:=by omega
 have h4:4<ts.size:=by omega
 have h5:5<ts.size:=by omega
 have he:∀(a:Act),a.tmps[4]?=some .nilIface->(execOp a.eval {dst:=some 5,op:=Op.binOp BinOp.neq 20 (Operand.tmp 4) (Operand.const Value.nilIface) 20,type:=4,pos:="entry.go:176",after:=#[{on:=0,ground:=Ground.data}],guard:=none}).run prog w= .ok (.value (.bool false)) w:=by
  intro a h;simp[execOp,Act.eval,h];rfl
 have hmv:∀(a:Act),(execOp a.eval {dst:=some 4,op:=Op.move (Operand.tmp 2),type:=20,pos:="entry.go:176",after:=#[],guard:=none}).run prog w= .ok (.value (a.eval (.tmp 2))) w:=fun a=>rfl;have has:∀(a:Act),(execOp a.eval {dst:=some 2,op:=Go.Op.assign (Go.Operand.tmp 3),type:=20,pos:="entry.go:176",after:=#[{on:=0,ground:=Go.Ground.data},{on:=0,ground:=Go.Ground.chain},{on:=0,ground:=Go.Ground.phase}],guard:=none}).run prog w= .ok (.value (a.eval (.tmp 3))) w:=fun a=>rfl;simp only[wpOpsS,List.range,List.range.loop,List.size_toArray,List.length_cons,List.length_nil,List.getElem?_toArray,Region.wanted,hrun,hr,Exit.thenS,List.getElem?_cons_zero,List.getElem?_cons_succ,if_true,has,Oper.upon];refine wpS_seq (wpS_region ?_);simp only[wpOpsS,List.range,List.range.loop,List.size_toArray,List.length_cons,List.length_nil,List.getElem?_toArray,Region.wanted,List.getElem?_cons_zero,List.getElem?_cons_succ,if_true,hmv,Oper.upon,Exit.thenS];rw[he _ (by simp[Act.put,Act.eval,h2,h3,h4])];show Code.wpS _ (Code.cond _ _ _) _ _ _ _;refine wpS_cond (t:=false) (by simp[Act.put,Act.eval,h2,h3,h5]) ?_;refine wpS_of_wp (wp_skip ?_);refine⟨rfl,.returning,by obtain⟨⟩:=c₀;simp at hc;subst hc;rfl,?_⟩;exact⟨_,oM (vs:=[]) (by rfl),⟨_,rfl⟩,rfl,rfl⟩
theorem JJ(e:cZ)(h:WG e)(hp:e.pack.length<=8000)(hok:e.Ok)(hr:e.right=true)(hm:e.st.m=[])(ht:e.st.t=[]):aq prog 159 [cy e.pack] (.tp [dI e,.int 0]):=by
 have hE:=JX e h (by omega) hm ht;have hR:=xG e hok;rw[hr]at hR;refine bI (xs:=[cy e.pack]) (r:= .agg true [.p (dI e),.p (.int 0)]) (aM:=⟨[],[],5⟩) ?_ ?_
 ·refine CJ (d:=5) (rs:=[_,_]) [8] [] [] [(0,.p (cy e.pack)),(2,.obj 0 0),(3,.obj 1 0)] ⟨[(0,⟨49,15,[.p (.str []),.p .nil,.p (.str []),.p (.str []),.p (.str []),.p (.int 0),.p (.str []),.p (.int 0),.p .nil,.p (.int 0),.p (.int 0),.p (.int 0),.p (.int 0),.p (nj 0),.p .nil]⟩),(1,⟨29,1,[.p (.int 0)]⟩)],[],2⟩ mixed func159 rfl (by kernel_rfl) (by kernel_rfl) (by simp[ntmps159]) rfl rfl rfl rfl (by simp[ntmps159]) rfl rfl rfl (by simp[uf,u9]) QV ⟨Tryz.f252,func252,by kernel_rfl,by kernel_rfl⟩ ?_ ?_
  ·simp;exact⟨[(0,0),(1,1)],by simp,by simp⟩
  ·simp;have h8:decide ((8000:Int)<(e.pack.length:Int))=false:=by simp;omega
   refine Da [2] hE ?_;simp[h8];refine bZ hR rfl ?_;simp
   done
 ·simp[cQ,AV.pc,gY]
end Go.Av
namespace Go.aT
open Go.Av
theorem L7(k:Nat):secs k []=[]:=by cases k<;>simp[secs]
theorem xY:∀(k:Nat) (b:List UInt8),b.length<=k->∃z,(secs k b).flatten=b++List.replicate z 0
 |0,b,h=>⟨0,by have:b=[]:=mB (by omega);subst this;simp[secs]⟩
 |k+1,b,h=>by
  by_cases c:b=[]
  ·subst c;exact⟨0,by simp[secs]⟩
  ·have hl:0<b.length:=List.length_pos_iff.2 c;rw[secs,if_neg c,List.flatten_cons];by_cases c2:64<=b.length
   ·obtain⟨z,hz⟩:=xY k (b.drop 64) (by simp;omega);refine⟨z,?_⟩;rw[hz,show 64-b.length=0 by omega,List.replicate_zero,List.append_nil,<-List.append_assoc,List.take_append_drop]
   ·rw[List.drop_of_length_le (by omega),fY (by omega),L7];exact⟨64-b.length,by simp⟩
theorem xZ(b:List UInt8):∃z,(bn b).flatten=b++List.replicate z 0:=xY _ b (Nat.le_refl _)
theorem ya{b:List UInt8}(h:b.length%64=0):(bn b).flatten=b:=by
 obtain⟨z,hz⟩:=xZ b;have h1:=AA (mS b);rw[eO,hz,dU,List.length_replicate]at h1;obtain rfl:z=0:=by omega
 rw[hz];simp
theorem L8(n:Nat)(h:n<65536):(UInt8.ofNat (n/256)).toNat*256+(UInt8.ofNat n).toNat=n:=by
 rw[UInt8.toNat_ofNat',UInt8.toNat_ofNat'];have:(2:Nat)^8=256:=rfl;omega
theorem Dh{b:List UInt8}(h:b.length<=505):(iN 1 b).2=0/\(iN 1 b).1.length=512/\mU (iN 1 b).1=(1,b,0):=by
 have e:iN 1 b=(frame (UInt8.ofNat (1:Int).toNat::UInt8.ofNat (b.length/256)::UInt8.ofNat b.length::(b++List.replicate (505-b.length) 0)),0):=by
  unfold iN;rw[if_neg (by omega),if_neg (by omega)]
 have hl:(iN 1 b).1.length=512:=by rw[e,gH];simp;omega
 refine⟨by rw[e],hl,?_⟩;unfold mU;rw[e]at hl⊢;simp only at hl⊢;rw[sr];rw[if_neg (by simp only;omega)];have hs:=L8 b.length (by omega);simp only[List.getD_cons_zero,List.getD_cons_succ];rw[hs];have hd:(UInt8.ofNat (1:Int).toNat::UInt8.ofNat (b.length/256)::UInt8.ofNat b.length::(b++List.replicate (505-b.length) 0)).drop (3+b.length)=List.replicate (505-b.length) 0:=by
  rw[show 3+b.length=b.length+1+1+1 by omega];simp only[List.drop_succ_cons];exact List.drop_left' rfl
 rw[hd];have ha:((List.replicate (505-b.length) (0:UInt8)).any fun c=>!(c==0))=false:=by
  rw[List.any_eq_false];intro x hx;rw[(List.mem_replicate.1 hx).2];simp
 have h1:(UInt8.ofNat (1:Int).toNat).toNat=1:=by decide
 rw[ha,h1,if_neg (by simp;omega)];simp[List.take_left']
theorem L9{N:Nat}{D:aN}(h:Gd N D){a:Nat}{b:List UInt8}(hb:b.length<=505)(ha:a+8<=N):(lX D a 1 b).2=0/\Gd N (lX D a 1 b).1/\(lX D a 1 b).1.now=ov D.now a (bn (iN 1 b).1)/\(lX D a 1 b).1.q.length=D.q.length+8/\(bn (iN 1 b).1).length=8:=by
 obtain⟨p1,p2,p3⟩:=Dh hb;have hc:(bn (iN 1 b).1).length=8:=by rw[eO,p2]
 obtain⟨w1,w2,w3,w4,w5⟩:=h.write (a:=a) (l:=bn (iN 1 b).1) (by omega) (mS _);unfold lX;rw[if_pos p1];exact⟨w1,w2,w3,by rw[w5,hc],hc⟩
theorem L_{N:Nat}{D:aN}(h:Gd N D){a:Nat}{b:List UInt8}(hb:b.length<=505)(ha:a+8<=N)(hs:seg D.now a 8=bn (iN 1 b).1):(fZ D a).2=(1,b,0)/\Gd N (fZ D a).1/\(fZ D a).1.now=D.now/\(fZ D a).1.q=D.q:=by
 obtain⟨p1,p2,p3⟩:=Dh hb;obtain⟨r1,r2,r3,r4,r5⟩:=h.read (a:=a) (n:=8) ha;unfold fZ;rw[show((8:Nat):Int)=8 from rfl]at r1 r2 r3 r5;rw[if_pos (by rw[r1])];refine⟨?_,r2,r3,r5⟩;simp only;rw[r1];simp only;rw[hs,ya (by rw[p2]),p3]
theorem Ma{e:cZ}(hp:e.pack.length<=8000)(un:List UInt8->cZ×Int)(hu:un e.pack=(e,0)):QU un (kZ e).flatten=(e,0)/\BO (kZ e).flatten=e.pack:=by
 obtain⟨z,hz⟩:=xZ (frame (aC e.pack.length 2++e.pack));have hS:(kZ e).flatten=frame (aC e.pack.length 2++e.pack)++List.replicate z 0:=hz;have b2:(aC (e.pack.length:Int) 2).length=2:=aW _ _;have hF:(frame (aC e.pack.length 2++e.pack)).length=e.pack.length+6:=by rw[gH,dU,b2];omega
 have ht:((kZ e).flatten.take 2)=aC e.pack.length 2:=by
  rw[hS];unfold frame;rw[List.append_assoc,List.append_assoc];rw[List.take_left' b2]
 have hN:uP (kZ e).flatten=e.pack.length+2:=by
  unfold uP;rw[ht,uQ 2 _ (by omega) (by simp;omega) (by omega)]
 have hT:(kZ e).flatten.take (uP (kZ e).flatten+4).toNat=frame (aC e.pack.length 2++e.pack):=by
  rw[hN,show((e.pack.length:Int)+2+4).toNat=e.pack.length+6 by omega,hS];exact List.take_left' hF
 have hO:BO (kZ e).flatten=e.pack:=by
  unfold BO;rw[hT,sr];exact List.drop_left' b2
 refine⟨?_,hO⟩;unfold QU;rw[if_neg (by rw[hN,hS,dU,hF];omega),hT,sr,if_pos rfl,hO,hu,if_pos rfl]
theorem Rd{t N:Nat}(yj:1<=N/\N<=65536)(l:List dh)(w:Sm)(m n:Nat)(xD:∀s∈l,s.length=64)(hF:w.s.rm.F=[(m,n)])(hb:w.e.body=rS m)(hl:l.length<n)(hn:m+n<=w.s.rm.n)(hS:jU t w.s)(hG:Gd N w.s.D)(hq:w.s.D.q.length+l.length<=t*t):∀k w',k<l.length->d_ (l.take k) w=(w',0)->rT t w':=by
 intro k w' hk hw;have hlk:(l.take k).length=k:=by simp;omega
 obtain⟨r,R,D,e1,e2,e3,e4,e5,e6,e7⟩:=yl yj (l.take k) w m n (fun s hs=>xD s (jH hs)) hF hb (by omega) hn hS hG (by omega);rw[e3,hlk]at hw;rw[hlk]at e7;injection hw with hw _;subst hw;exact AI (m:=m+k) (n:=n-k) rfl rfl (by omega) (by simp only;omega) e7
theorem HF(s:Nat)(a b:List UInt8):uW (uW s a) b=uW s (a++b):=by
 unfold uW;rw[Du,Nat.xor_assoc,Nat.xor_self,Nat.xor_zero]
structure Ac(N t r:Nat)(s0:St)(e0:cZ)(b:List UInt8)(w:Sm):Prop where
 hs:∃D R,w.s={s0 with D:=D,rm:={s0.rm with F:=[(b.length/64,s0.rm.n-b.length/64)],R:=R}}
 he:w.e={e0 with size:=b.length,sum:=uW 0 b,body:=rS (b.length/64)}
 rest:w.rest=b.drop (64*(b.length/64))
 ended:w.ended=false
 kept:w.kept=false
 ok:jU t w.s
 gd:Gd N w.s.D
 q:w.s.D.q.length<=s0.D.q.length+b.length/64
 low:∀a n,a+n<=r->seg w.s.D.now a n=seg s0.D.now a n
 cont:(seg w.s.D.now r (b.length/64)).flatten=b.take (64*(b.length/64))
structure SmS(N t r:Nat)(s0:St):Prop where
 n2:1<=N/\N<=65536
 lay:cG s0.jn s0.pn=(r:Int)
 rN:r+s0.rm.n=N
 q:s0.D.q.length<=100
 t:1000<=t/\t<=20000
theorem Ac.acR{N t r:Nat}{s0:St}{e0:cZ}{b:List UInt8}{w:Sm}(h:Ac N t r s0 e0 b w)(hs:SmS N t r s0){l:List dh}(xD:∀s∈l,s.length=64)(hl:b.length/64+l.length<s0.rm.n)(hb:b.length/64+l.length<=60000)(x:List UInt8):∃R D,d_ l (w.cnt x)=({w.cnt x with s:={s0 with D:=D,rm:={s0.rm with F:=[(b.length/64+l.length,s0.rm.n-(b.length/64+l.length))],R:=R}},e:={(w.cnt x).e with body:=rS (b.length/64+l.length)}},0)/\Gd N D/\D.now=ov w.s.D.now (r+b.length/64) l/\D.q.length=w.s.D.q.length+l.length/\jU t {s0 with D:=D,rm:={s0.rm with F:=[(b.length/64+l.length,s0.rm.n-(b.length/64+l.length))],R:=R}}/\∀k w',k<l.length->d_ (l.take k) (w.cnt x)=(w',0)->rT t w':=by
 obtain⟨D0,R0,h1⟩:=h.hs;have hok:=h.ok;have hgd:=h.gd;have hq:=h.q;have hqs:=hs.q;have ht:t*t>=1000*t:=Nat.mul_le_mul_right _ hs.t.1;have V8:=hs.t;have hF:(w.cnt x).s.rm.F=[(b.length/64,s0.rm.n-b.length/64)]:=by show w.s.rm.F=_;rw[h1]
 have hbd:(w.cnt x).e.body=rS (b.length/64):=by show w.e.body=_;rw[h.he]
 have hn:b.length/64+(s0.rm.n-b.length/64)<=(w.cnt x).s.rm.n:=by show _<=w.s.rm.n;rw[h1];simp only;omega
 have hqq:(w.cnt x).s.D.q.length+l.length<=t*t:=by show w.s.D.q.length+l.length<=t*t;omega
 obtain⟨r',R,D,e1,e2,e3,e4,e5,e6,e7⟩:=yl hs.n2 l (w.cnt x) (b.length/64) (s0.rm.n-b.length/64) xD hF hbd (by omega) hn hok hgd hqq;have hC:=Rd hs.n2 l (w.cnt x) (b.length/64) (s0.rm.n-b.length/64) xD hF hbd (by omega) hn hok hgd hqq;have hr:r'=r:=by
  have Lw:cG w.s.jn w.s.pn=(r':Int):=e1;rw[h1]at Lw;have:=hs.lay;simp only at Lw;omega
 subst hr;rw[show s0.rm.n-b.length/64-l.length=s0.rm.n-(b.length/64+l.length) by omega]at e3 e7;have hcs:(w.cnt x).s={s0 with D:=D0,rm:={s0.rm with F:=[(b.length/64,s0.rm.n-b.length/64)],R:=R0}}:=h1;rw[hcs]at e3 e7;exact⟨R,D,e3,e4,e5,e6,e7,hC⟩
theorem Ac.write{N t r:Nat}{s0:St}{e0:cZ}{b:List UInt8}{w:Sm}(h:Ac N t r s0 e0 b w)(hs:SmS N t r s0)(x:List UInt8)(hx:(b.length+x.length)/64<s0.rm.n)(hx2:b.length+x.length<=1000000):(w.write x).2=0/\Ac N t r s0 e0 (b++x) (w.write x).1/\∀k w',k<(bn ((w.rest++x).take ((w.rest++x).length/64*64))).length->d_ ((bn ((w.rest++x).take ((w.rest++x).length/64*64))).take k) (w.cnt x)=(w',0)->rT t w':=by
 have hrl:w.rest.length=b.length-64*(b.length/64):=by rw[h.rest];simp
 obtain⟨B,hB⟩:∃B,w.rest++x=B:=⟨_,rfl⟩;have hBl:B.length=b.length-64*(b.length/64)+x.length:=by rw[<-hB,dU,hrl]
 have AJ:b++x=b.take (64*(b.length/64))++B:=by rw[<-hB,h.rest,<-List.append_assoc,List.take_append_drop]
 have hbt:(b.take (64*(b.length/64))).length=64*(b.length/64):=by simp;omega
 obtain⟨k,hk⟩:∃k,B.length/64=k:=⟨_,rfl⟩;have hm:(b++x).length/64=b.length/64+k:=by rw[dU];omega
 have hl0:(B.take (k*64)).length=k*64:=by simp;omega
 have Wh:(bn (B.take (k*64))).length=k:=by rw[eO,hl0];omega
 have hfl:=ya (b:=B.take (k*64)) (by rw[hl0];omega);rw[dU]at hm;obtain⟨R,D,e1,e2,e3,e4,e5,e6⟩:=h.acR hs (l:=bn (B.take (k*64))) (mS _) (by omega) (by omega) x;rw[Wh]at e1 e4 e5;rw[hB,hk];have Wi:=h.gd.nl;have hrN:=hs.rN;unfold Sm.write;rw[hB,hk,e1];refine⟨rfl,?_,e6⟩;refine⟨⟨D,R,by rw[dU,hm]⟩,?_,?_,h.ended,h.kept,e5,e2,?_,fun a n ha=>?_,?_⟩
 ·simp only[Sm.cnt];rw[h.he];simp only[dU,hm,HF,Int.natCast_add]
 ·simp only;have hdr:(b.take (64*(b.length/64))).drop (64*(b.length/64+k))=[]:=List.drop_of_length_le (by rw[hbt];omega);rw[dU,hm,AJ,List.drop_append,hbt,hdr,List.nil_append];congr 1;omega
 ·have:=h.q;rw[dU];simp only;omega
 ·simp only;rw[e3,aV (by rw[Wh,Wi];omega) (.inl (by omega)),h.low a n ha]
 ·simp only;rw[dU,hm,e3,kU,aV (by rw[Wh,Wi];omega) (.inl (by omega)),List.flatten_append,h.cont];have hin:=dQ (L:=w.s.D.now) (a:=r+b.length/64) (l:=bn (B.take (k*64))) (by rw[Wh,Wi];omega);rw[Wh]at hin;have oK:(b.take (64*(b.length/64))).take (64*(b.length/64+k))=b.take (64*(b.length/64)):=fY (by rw[hbt];omega);rw[hin,hfl,AJ,List.take_append,hbt,oK];congr 2;omega
theorem Ac.last{N t r:Nat}{s0:St}{e0:cZ}{b:List UInt8}{w:Sm}(h:Ac N t r s0 e0 b w)(hs:SmS N t r s0)(hx:(b.length+63)/64<s0.rm.n)(hx2:b.length<=1000000):∃R D,d_ (bn w.rest) w=({w with s:={s0 with D:=D,rm:={s0.rm with F:=[((b.length+63)/64,s0.rm.n-(b.length+63)/64)],R:=R}},e:={w.e with body:=rS ((b.length+63)/64)}},0)/\Gd N D/\D.q.length<=s0.D.q.length+(b.length+63)/64/\jU t {s0 with D:=D,rm:={s0.rm with F:=[((b.length+63)/64,s0.rm.n-(b.length+63)/64)],R:=R}}/\(∀a n,a+n<=r->seg D.now a n=seg s0.D.now a n)/\(∃z,(seg D.now r ((b.length+63)/64)).flatten=b++List.replicate z 0)/\∀k w',k<(bn w.rest).length->d_ ((bn w.rest).take k) w=(w',0)->rT t w':=by
 have hrl:w.rest.length=b.length-64*(b.length/64):=by rw[h.rest];simp
 have Wh:(bn w.rest).length=(b.length+63)/64-b.length/64:=by rw[eO,hrl];omega
 have hw:w.cnt []=w:=by
  unfold Sm.cnt;have h0:uW w.e.sum []=w.e.sum:=by rw[h.he];simp only;rw[HF,List.append_nil]
  rw[h0];simp
 obtain⟨R,D,e1,e2,e3,e4,e5,e6⟩:=h.acR hs (l:=bn w.rest) (mS _) (by omega) (by omega) [];rw[hw]at e1 e6;rw[show b.length/64+(bn w.rest).length=(b.length+63)/64 by omega]at e1 e5;have Wi:=h.gd.nl;have hrN:=hs.rN;refine⟨R,D,e1,e2,?_,e5,fun a n ha=>?_,?_,e6⟩
 ·have:=h.q;omega
 ·rw[e3,aV (by rw[Wi];omega) (.inl (by omega)),h.low a n ha]
 ·obtain⟨z,hz⟩:=xZ w.rest;refine⟨z,?_⟩;have hin:=dQ (L:=w.s.D.now) (a:=r+b.length/64) (l:=bn w.rest) (by rw[Wi];omega);rw[show(b.length+63)/64=b.length/64+(bn w.rest).length by omega,e3,kU,hin,aV (by rw[Wi];omega) (.inl (by omega)),List.flatten_append,h.cont,hz,h.rest,<-List.append_assoc,List.take_append_drop]
end Go.aT
