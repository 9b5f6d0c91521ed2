/- TiersAgain, part 12: an abstract interpreter over any program's form, with its proof of soundness; no condition. -/
import Derived.Test.YtgkdpbambfgahaaGreatDoorWak
import Derived.Recover
import Derived.RangeFuncBox
import Derived.RangeFuncLeaves
import Derived.RangeFuncNested
import Derived.RangeFuncBound
import Derived.RangeFuncCalls
set_option linter.all false
set_option maxRecDepth 100000
set_option maxHeartbeats 64000000
namespace Go.Av
open Go.RowKit
section
variable{P:Program}
def Sem(P:Program)(cx:Cx)(c:Code)(st:AS)(Q:Exit->AS->Prop):Prop:=∀fr:Fr,uE fr cx.iM->codeOk cx.cls cx.ot fr.n c=true->∀a w,jK fr st a w->c.wp P (Post fr Q) a w
def g_{cx:Cx}{c:Code}{st:AS}{Q:Exit->AS->Prop}(hm:P.follows .mixedOrders=true)(h:aw P cx c st Q):Sem P cx c st Q:=λ_ hfr hk a w hs=>iU hm hfr c st Q hk h a w hs
def oU{α:Type}{cx:Cx}{x y:Code}{st:AS}{Q:Exit->AS->Prop}(hm:P.follows .mixedOrders=true)(C:α->Prop)(S:α->List (Nat×AV))(T:α->Tb)(h1:aw P cx x st (sX cx C S T (λ_=>0) 1 Q))(h2:∀a,C a->Sem P cx y (NQ (S a) (T a)) Q):Sem P cx (.seq x y) st Q:=by
 intro fr hfr hk a w hs;simp only[codeOk,bG]at hk;refine wp_seq (wp_mono (iU hm hfr x st _ hk.1 h1 a w hs) ?_);rintro e a' w' ⟨st',hq,hs'⟩;cases e with
 |normal=>
  obtain⟨b,hb,_,rn,k1,k2⟩:=hq;exact h2 b hb fr hfr hk.2 a' w' (mS rn k1 k2 fr a' w' hfr hs')
 |_=>exact⟨st',hq,hs'⟩
def iF{cx:Cx}{x y:Code}{st:AS}{Q:Exit->AS->Prop}(hm:P.follows .mixedOrders=true)(A:List (Nat×AV))(B:Tb)(h1:aw P cx x st (sX cx (λ_:Unit=>True) (λ_=>A) (λ_=>B) (λ_=>0) 1 Q))(h2:Sem P cx y (NQ A B) Q):Sem P cx (.seq x y) st Q:=oU hm (λ_:Unit=>True) (λ_=>A) (λ_=>B) h1 λ_ _=>h2
def qP{cx:Cx}{c:Code}{st Uh:AS}{Q:Exit->AS->Prop}(hl:st.le cx.iM Uh)(h:Sem P cx c Uh Q):Sem P cx c st Q:=λfr hfr hk a w hs=>h fr hfr hk a w (hl fr a w hfr hs)
def vm{f:FuncId}{fn:Func}{c:Code}{xs:List AV}{tb:Tb}{cx:Cx}{R:List AV->Tb->Prop}(hf:P.funcs[f]?=some fn)(hb:fn.body=some c)(hk:codeOk cx.cls cx.ot fn.ntmps c=true)(hx:xs.length<=fn.ntmps)(hcx:cx.iM=tb.nx)(h:Sem P cx c (mD xs tb) (ur P fn R)){g:G}{w:World}{vs:List Value}{F:Nat->Prop}(hw:bf w g.M F tb g w)(hvs:aV g vs xs):Calls P f vs.toArray w λe w'=>∃us zs g' a_,e= .returned (z6 us)/\g.le g'/\bf w g.M F a_ g' w'/\aV g' us zs/\R zs a_:=by
 have hlen:=hvs.length;refine calls_of_wp hf hb ?_
 let fr:Fr:=⟨w,g.M,F,g,fn.ntmps,[]⟩
 have hfr:uE fr cx.iM:=λi hi=>hw.fresh i O;have qf:jK fr (mD xs tb) {tmps:=vs.toArray++Array.replicate (fn.ntmps-vs.toArray.size) undef,defers:=[]} w:=by
  refine⟨g,G.le_refl g,hw,?_,?_,rfl⟩
  .intro t;have:=oE (g:=g) xs vs 0 hvs t;simp only[Nat.sub_zero,q_,cr]at this;show bJ _ _ (mW xs 0 t);by_cases ht:t<vs.length
   .have e:(vs.toArray++Array.replicate (fn.ntmps-vs.toArray.size) undef).getD t undef=(vs[t]?).getD undef:=by
     simp[F0,ht]
    grind
   .rw[rC xs 0 t O];exact .any _
  grind
 refine wp_mono (h fr hfr hk _ w qf) ?_;rintro e a w' ⟨st,hq,hs⟩;obtain⟨g',h0,h1,h2,h3,h4⟩:=hs;have fin:CS P R st.tb (nH P st fn.results.toList)->a.defers=[]/\∃v,(results fn a.tmps).run P w'= .ok v w'/\∃us zs g' a_,Ending.returned v= .returned (z6 us)/\g.le g'/\bf w g.M F a_ g' w'/\aV g' us zs/\R zs a_:=by
  intro hres;unfold CS at hres
  grind [xy,qF]
 cases e with
 |normal=>exact fin hq
 |ret=>exact fin hq
 |_=>exact hq.elim
def Ig{f:FuncId}{fn:Func}{c:Code}{xs ys:List PC}{r:PC}(md:List Nat)(cls:List (Nat×List (Nat×Cls)))(lab:List (Nat×Nat))(hf:P.funcs[f]?=some fn)(hb:fn.body=some c)(hnm:(fn.name=="runtime.NumGoroutine")=false)(hk:codeOk cls [] fn.ntmps c=true)(hx:xs.length<=fn.ntmps)(hr:r=CT ys)(h:Sem P ⟨md,cls,lab,0,[]⟩ c (mD (xs.map .p) ⟨[],[],0⟩) (ur P fn (ED ys))):nc P f xs r:=by
 refine⟨⟨fn,hf,hnm,by grind⟩,λM w vs hH hvs=>?_⟩;have hw:bf w M (λ_=>False) ⟨[],[],0⟩ ⟨M,λ_=>none,λ_=>none⟩ w:=by
  refine⟨hH,vj.refl _ _,λ_ _ _=>rfl,Mem.le_refl _,?_,?_,?_,?_,?_,?_⟩
  .simp
  .simp
  .simp
  all_goals simp
 have:=vm (cx:=⟨md,cls,lab,0,[]⟩) (g:=⟨M,λ_=>none,λ_=>none⟩) (F:=λ_=>False) hf hb hk (by grind) rfl h hw (lY hvs);refine this.mono ?_;rintro e w' ⟨us,zs,g',a_,rfl,hle,hS,hR,hz⟩;have NV:=toAll_p hR hz;refine⟨_,g'.M,rfl,by grind [EF],hS.holds,hle.M,λb hb=>hS.old b hb (λh=>h),?_⟩;exact⟨hS.keep.os,hS.keep.tape,hS.keep.output,hS.keep.size,λk hk=>hS.keep.block k hk (λh=>h)⟩
def kQ{f:FuncId}{fn:Func}{c:Code}{xs rs:List AV}{r:AV}{tb a_:Tb}(md:List Nat)(cls:List (Nat×List (Nat×Cls)))(lab:List (Nat×Nat))(hf:P.funcs[f]?=some fn)(hb:fn.body=some c)(hnm:(fn.name=="runtime.NumGoroutine")=false)(hk:codeOk cls [] fn.ntmps c=true)(hx:xs.length<=fn.ntmps)(hr:r=wL rs)(h:Sem P ⟨md,cls,lab,tb.nx,[]⟩ c (mD xs tb) (ur P fn (Gg tb.nx rs a_))):dm P f xs tb r a_:=by
 refine⟨⟨fn,hf,hnm,by grind⟩,λg w vs F hw hvs=>?_⟩;have:=vm (cx:=⟨md,cls,lab,tb.nx,[]⟩) hf hb hk hx rfl h hw hvs;refine this.mono ?_;rintro e w' ⟨us,zs,g',t,rfl,hle,hS,hR,rn,⟨h1,h2,h3,h4,h5,h6⟩,hto,wY⟩;refine⟨_,g'.cp (Cf rn) a_.nx,rfl,G.mS hle (iM:=tb.nx) (λi hi=>hw.fresh i O) h2 (λi hi=>nS h1 hi),hS.cp h3 h4 h5 h6,?_⟩
 grind [pZ,ie,ig]
end
def vK(ρ:Nat->Nat)(u v:Nat):Nat->Bool
 |0=>true
 |n+1=>(ρ (u+n)==v+n)&&vK ρ u v n
@[simp]def ai2{ρ:Nat->Nat}{u v:Nat}:vK ρ u v 0=true:=(rfl)
@[simp]def Rj{ρ:Nat->Nat}{u v n:Nat}:vK ρ u v (n+1)=((ρ (u+n)==v+n)&&vK ρ u v n):=(rfl)
theorem rL{ρ:Nat->Nat}{u v:Nat}:∀{n:Nat},vK ρ u v n=true->∀j,j<n->ρ (u+j)=v+j
 |0,_,i,h=>O
 |n+1,h,i,hi=>by
  simp only[Rj,bG,ri]at h;rcases Nat.lt_succ_iff_lt_or_eq.1 hi with h1|h1
  .exact rL h.2 i h1
  grind
structure LO(k w:Nat)(σ:Type) where
 B:Nat->Nat->σ->List (Nat×Ob)
 Uk:∀b u s p,p∈B b u s->(b<=p.1/\p.1<b+k)\/(u<=p.1/\p.1<u+w)
 nd:∀b u s,b+k<=u\/u+w<=b->((B b u s).map (·.1)).Nodup
 cp:∀b u c v s ρ,(∀i,i<k->ρ (b+i)=c+i)->(∀j,j<w->ρ (u+j)=v+j)->fD ρ (B b u s)=B c v s
 ja:∀b u s m p,b+k<=m->u+w<=m->p∈B b u s->AV.ja.iA m p.2.xs=true
theorem Ak{α:Type}{i:Nat}:∀{a b:List (Nat×α)},(∀p∈a,p.1≠i)->lk i (a++b)=lk i b
 |[],b,_=>rfl
 |(j,p)::a,b,h=>by
  simp only[kP,lk];rw[ah (λe=>h (j,p) H e.symm)];exact Ak λq hq=>h q (by grind)
theorem JO{α:Type}{i:Nat}:∀{a:List (Nat×α)},(∀p∈a,p.1≠i)->del i a=a
 |[],_=>rfl
 |(j,p)::a,h=>by
  simp only[del];rw[ah (λe=>h (j,p) H e.symm),JO λq hq=>h q (by grind)]
theorem Hg{α:Type}{i:Nat}:∀{a b:List (Nat×α)},del i (a++b)=del i a++del i b
 |[],b=>rfl
 |(j,p)::a,b=>by
  simp only[kP,del];split
  .exact Hg
  .rw[kP,Hg]
theorem Dv{α:Type}:∀{a b l:List (Nat×α)},cX (a++b) l=cX a (cX b l)
 |[],b,l=>rfl
 |(j,p)::a,b,l=>by simp only[kP,cX,Dv]
theorem tC{α:Type}:∀{a:List (Nat×α)},cX a []=[]
 |[]=>rfl
 |(j,p)::a=>by simp only[cX,tC,del]
theorem nI{α:Type}{i:Nat}{o:α}{l:List (Nat×α)}:∀{a:List (Nat×α)},(∀p∈a,p.1≠i)->cX a ((i,o)::l)=(i,o)::cX a l
 |[],_=>rfl
 |(j,p)::a,h=>by
  simp only[cX];rw[nI λq hq=>h q (by grind)];simp_all
theorem zG{α:Type}:∀{a c l:List (Nat×α)},(∀p∈c,p.1∈a.map (·.1))->cX a (c++l)=cX a l
 |a,[],l,_=>rfl
 |a,(i,o)::c,l,h=>by
  have h1:i∈a.map (·.1):=h (i,o) H;have h2:∀p∈c,p.1∈a.map (·.1):=λp hp=>h p (by grind);have key:∀{a m:List (Nat×α)},i∈a.map (·.1)->cX a ((i,o)::m)=cX a m:=by
   intro a
   induction a with
   |nil=>simp
   |cons p a ih=>
    grind [cX,nI,del]
  rw[kP,key h1,zG h2]
theorem JP{α:Type}{bx:List (Nat×α)}:∀{a b:List (Nat×α)},aA bx (a++b)=(aA bx a/\aA bx b)
 |[],b=>H
 |(i,o)::a,b=>by simp only[kP,aA,JP,and_assoc]
theorem A8{α:Type}{bx:List (Nat×α)}:∀{a:List (Nat×α)},(∀p∈a,lk p.1 bx=some p.2)->aA bx a
 |[],_=>trivial
 |(i,o)::a,h=>⟨h (i,o) H,A8 λp hp=>h p (by grind)⟩
theorem xM{α:Type}{bx:List (Nat×α)}:∀{a:List (Nat×α)},aA bx a->∀p∈a,lk p.1 bx=some p.2
 |(i,o)::a,h,p,hp=>by
  rcases fF.1 hp with rfl|hp
  .simp_all
  .exact xM h.2 p hp
theorem JQ{α:Type}:∀{a b:List (Nat×α)},(a.map (·.1)).Nodup->∀p∈a,lk p.1 (a++b)=some p.2
 |(i,o)::a,b,h,p,hp=>by
  have h:=List.nodup_cons.1 h;simp only[kP,lk];rcases fF.1 hp with rfl|hp
  .simp
  .rw[ah]
   .exact JQ h.2 p hp
   grind
def E4{ρ:Nat->Nat}:∀{a:List (Nat×Ob)} {p:Nat×Ob},p∈a->(ρ p.1,({p.2 with xs:=AV.cp.eu ρ p.2.xs}:Ob))∈fD ρ a
 |(i,o)::a,p,hp=>by
  simp only[fD];rcases fF.1 hp with rfl|hp
  .simp
  .exact yH _ (E4 hp)
theorem JR{ρ:Nat->Nat}{m:Nat}{bx:List (Nat×Ob)}:∀{a b:List (Nat×Ob)},uw ρ m bx (a++b)=(uw ρ m bx a/\uw ρ m bx b)
 |[],b=>H
 |(i,o)::a,b=>by simp only[kP,uw,JR,and_assoc]
def Oz{ρ:Nat->Nat}{m:Nat}{bx:List (Nat×Ob)}:∀{a:List (Nat×Ob)},(∀p∈a,p.1<m/\AV.ja.iA m p.2.xs=true/\lk (ρ p.1) bx=some {p.2 with xs:=AV.cp.eu ρ p.2.xs})->uw ρ m bx a
 |[],_=>trivial
 |(i,o)::a,h=>by
  obtain⟨h1,h2,h3⟩:=h (i,o) H;refine⟨h1,h2,?_,Oz λp hp=>h p (by grind)⟩;simp_all
def ahi{α β:Type}(ρ:Nat->Nat)(a:List (Nat×α))(b:List (Nat×β)):Prop:=∀p∈a,∀q∈b,p.1=q.1\/ρ p.1≠ρ q.1
theorem Dw{α:Type}{ρ:Nat->Nat}{i:Nat}:∀{a:List (Nat×α)},(∀p∈a,i=p.1\/ρ i≠ρ p.1)->oP.C3 ρ i a
 |[],_=>trivial
 |(j,o)::a,h=>⟨h (j,o) H,Dw λp hp=>h p (by grind)⟩
theorem E5{α:Type}{ρ:Nat->Nat}{i:Nat}:∀{a:List (Nat×α)},oP.C3 ρ i a->∀p∈a,i=p.1\/ρ i≠ρ p.1
 |(j,o)::a,h,p,hp=>by
  rcases fF.1 hp with rfl|hp
  .simp_all
  .exact E5 h.2 p hp
theorem JS{α:Type}{ρ:Nat->Nat}:∀{a b:List (Nat×α)},oP ρ a->oP ρ b->ahi ρ a b->oP ρ (a++b)
 |[],b,_,h,_=>h
 |(i,o)::a,b,h1,h2,h3=>by
  refine⟨Dw λp hp=>?_,JS h1.2 h2 λp hp=>h3 p (by grind)⟩;rcases lD.1 hp with hp|hp
  .exact E5 h1.1 p hp
  .exact h3 (i,o) H p hp
theorem OA{α:Type}{ρ:Nat->Nat}:∀{a:List (Nat×α)},(∀p∈a,∀q∈a,p.1=q.1\/ρ p.1≠ρ q.1)->oP ρ a
 |[],_=>trivial
 |(i,o)::a,h=>⟨Dw λp hp=>h (i,o) H p (by grind),OA λp hp q hq=>h p (by grind) q (by grind)⟩
section
variable{k w:Nat}{σ:Type}{S:LO k w σ}{b u i m:Nat}{s s':σ}{ρ:Nat->Nat}
def LO.ne(h:(i<b\/b+k<=i)/\(i<u\/u+w<=i)):∀p∈S.B b u s,p.1≠i:=λp hp e=>by
 have:=S.Uk b u s p hp;omega
@[simp]def anC{l:List (Nat×Ob)}(h:(i<b\/b+k<=i)/\(i<u\/u+w<=i)):lk i (S.B b u s++l)=lk i l:=Ak (LO.ne h)
@[simp]def alY{l:List (Nat×Ob)}(h:(i<b\/b+k<=i)/\(i<u\/u+w<=i)):del i (S.B b u s++l)=S.B b u s++del i l:=by rw[Hg,JO (LO.ne h)]
@[simp]def Sb{l v:List (Nat×Ob)}:cX (S.B b u s++v) l=cX (S.B b u s) (cX v l):=Dv
@[simp]def Sc:cX (S.B b u s) []=[]:=tC
@[simp]def Rk{l:List (Nat×Ob)}{o:Ob}(h:(i<b\/b+k<=i)/\(i<u\/u+w<=i)):cX (S.B b u s) ((i,o)::l)=(i,o)::cX (S.B b u s) l:=nI (LO.ne h)
@[simp]def Rl{l:List (Nat×Ob)}:cX (S.B b u s) (S.B b u s++l)=cX (S.B b u s) l:=zG λp hp=>bE.2 ⟨p,hp,rfl⟩
@[simp]def OB:cX (S.B b u s) (S.B b u s)=[]:=by
 have:=zG (a:=S.B b u s) (c:=S.B b u s) (l:=[]) λp hp=>bE.2 ⟨p,hp,rfl⟩;rwa[gL,tC]at this
@[simp]def XL{bx l:List (Nat×Ob)}:aA bx (S.B b u s++l)=(aA bx (S.B b u s)/\aA bx l):=JP
@[simp]def W2{l:List (Nat×Ob)}(h:b+k<=u\/u+w<=b):aA (S.B b u s++l) (S.B b u s)=True:=eq_true (A8 (JQ (S.nd b u s h)))
@[simp]def W4{l:List (Nat×Ob)}{o:Ob}(h:(i<b\/b+k<=i)/\(i<u\/u+w<=i)):aA ((i,o)::l) (S.B b u s)=aA l (S.B b u s):=by
 have e:∀p∈S.B b u s,lk p.1 ((i,o)::l)=lk p.1 l:=λp hp=>by
  simp only[lk];rw[ah (LO.ne h p hp)]
 exact propext ⟨λh'=>A8 λp hp=>by rw[<-e p hp];exact xM h' p hp,λh'=>A8 λp hp=>by rw[e p hp];exact xM h' p hp⟩
@[simp]def ahj(h1:vK ρ b (ρ b) k=true)(h2:vK ρ u (ρ u) w=true):fD ρ (S.B b u s)=S.B (ρ b) (ρ u) s:=S.cp b u (ρ b) (ρ u) s ρ (rL h1) (rL h2)
@[simp]def XM{bx l:List (Nat×Ob)}:uw ρ m bx (S.B b u s++l)=(uw ρ m bx (S.B b u s)/\uw ρ m bx l):=JR
@[simp]def ai3{bx:List (Nat×Ob)}(h1:vK ρ b (ρ b) k=true)(h2:vK ρ u (ρ u) w=true)(h3:b+k<=m/\u+w<=m)(h4:aA bx (S.B (ρ b) (ρ u) s)):uw ρ m bx (S.B b u s)=True:=eq_true (Oz λp hp=>⟨by have:=S.Uk b u s p hp;omega,S.ja b u s m p h3.1 h3.2 hp,by
 have h5:=E4 (ρ:=ρ) hp;rw[S.cp b u (ρ b) (ρ u) s ρ (rL h1) (rL h2)]at h5;exact xM h4 _ h5⟩)
def Hh(h1:vK ρ b (ρ b) k=true)(h2:vK ρ u (ρ u) w=true){p:Nat×Ob}(hp:p∈S.B b u s):(b<=p.1/\p.1<b+k/\ρ p.1=ρ b+(p.1-b))\/(u<=p.1/\p.1<u+w/\ρ p.1=ρ u+(p.1-u)):=by
 rcases S.Uk b u s p hp with⟨h,h'⟩|⟨h,h'⟩
 .refine .inl ⟨h,h',?_⟩;have:=rL h1 (p.1-b) O
  grind
 .refine .inr ⟨h,h',?_⟩;have:=rL h2 (p.1-u) O
  grind
@[simp]def Rm(h1:vK ρ b (ρ b) k=true)(h2:vK ρ u (ρ u) w=true)(h3:ρ b+k<=ρ u\/ρ u+w<=ρ b):oP ρ (S.B b u s)=True:=eq_true (OA λp hp q hq=>by
 have e1:=Hh h1 h2 hp;have e2:=Hh h1 h2 hq;omega)
def Rn(k w:Nat)(ρ:Nat->Nat)(b u:Nat):List (Nat×Ob)->Prop
 |[]=>True
 |(i,_)::l=>((ρ i<ρ b\/ρ b+k<=ρ i)/\(ρ i<ρ u\/ρ u+w<=ρ i))/\Rn k w ρ b u l
@[simp]def alZ:Rn k w ρ b u []=True:=(rfl)
@[simp]def ai4{o:Ob}{l:List (Nat×Ob)}:Rn k w ρ b u ((i,o)::l)=(((ρ i<ρ b\/ρ b+k<=ρ i)/\(ρ i<ρ u\/ρ u+w<=ρ i))/\Rn k w ρ b u l):=(rfl)
theorem JT:∀{l:List (Nat×Ob)},Rn k w ρ b u l->∀p∈l,(ρ p.1<ρ b\/ρ b+k<=ρ p.1)/\(ρ p.1<ρ u\/ρ u+w<=ρ p.1)
 |(i,o)::l,h,p,hp=>by
  rcases fF.1 hp with rfl|hp
  .simp_all
  .exact JT h.2 p hp
@[simp]def XO{l:List (Nat×Ob)}(h1:vK ρ b (ρ b) k=true)(h2:vK ρ u (ρ u) w=true)(h3:ρ b+k<=ρ u\/ρ u+w<=ρ b)(h4:Rn k w ρ b u l):oP ρ (S.B b u s++l)=oP ρ l:=by
 refine propext ⟨λh=>?_,λh=>JS (of_eq_true (Rm h1 h2 h3)) h λp hp q hq=>?_⟩
 .have:∀(a:List (Nat×Ob)),oP ρ (a++l)->oP ρ l:=by
   intro a
   induction a with
   |nil=>exact λh=>h
   |cons p a ih=>intro h;exact ih h.2
  exact this _ h
 .have e1:=Hh h1 h2 hp;have e2:=JT h4 q hq;omega
end
section
variable{P:Program}{tb:Tb}{kt:AV->Tb->Prop}
def k9{gf:FuncId}{ys l:List AV}{ts ts':Tb}{r:AV}(rn:List Nat)(h:dm P gf ys ts r ts')(hs:rn.length=ts.nx/\ts.nx<=ts'.nx/\rn.Nodup/\∀j∈rn,j<tb.nx)(hl:toAll l (AV.cp.eu (fh rn tb.nx) ys))(hb:aA tb.bx (fD (fh rn tb.nx) ts.bx))(hr:aA tb.rw (jj (fh rn tb.nx) ts.rw))(hk:kt (r.cp (fh rn tb.nx)) (tb.merge (ts.cp (fh rn tb.nx)) (ts'.cp (fh rn tb.nx)))):C9 P gf [] l tb kt:=V2 (xg h rn tb.nx hs.1 hs.2.1 hs.2.2.1 hs.2.2.2) hl hb hr (by show fh rn tb.nx ts.nx=tb.nx;grind [pF]) hk
end
def ag3{P:Program}{f:FuncId}{xs:List AV}{tb tb2 a_:Tb}{r:AV}(h:dm P f xs tb r a_)(hb:aA tb2.bx tb.bx)(hr:aA tb2.rw tb.rw)(hn:tb2.nx=tb.nx):dm P f xs tb2 r a_:=⟨h.1,λg w vs F hw hvs=>h.2 g w vs F (hw.sub (λ_ _ e=>gI _ hb e) (λ_ _ e=>gI _ hr e) (qI hn)) hvs⟩
def Idle(P:Program)(f:FuncId):Prop:=∀args w,CallsD P f args .returning w λe u' w'=>(∃v,e= .returned v)/\u'= .returning/\w'=w
section
variable{P:Program}
def GL{f:FuncId}{fn:Func}{x y:Code}{id:Nat}{mk df:Oper}{d:Tmp}{cl:FuncId}{caps:Array Operand}{xs rs:List AV}{r:AV}{tb a_:Tb}(md:List Nat)(cls:List (Nat×List (Nat×Cls)))(lab:List (Nat×Nat))(S:List (Nat×AV))(T:Tb)(hm:P.follows .mixedOrders=true)(hf:P.funcs[f]?=some fn)(hb:fn.body=some (.seq x (.seq (.region id #[mk,df] false) y)))(hnm:(fn.name=="runtime.NumGoroutine")=false)(hk:(codeOk cls [] fn.ntmps x&&codeOk cls [] fn.ntmps y)=true)(hx:xs.length<=fn.ntmps)(hr:r=wL rs)(hmk:mk.op= .makeFunc (.func cl) #[] caps)(hmg:mk.guard=none)(hmd:mk.dst=some d)(hdn:d<fn.ntmps)(hdf:df.op= .defer {callee:= .value (.tmp d),args:=#[],argTypes:=#[]})(hdg:df.guard=none)(hdd:df.dst=none)(hd:ze S d= .any)(kW:Idle P cl)(hcan:eE P cl)(h1:aw P ⟨md,cls,lab,tb.nx,[]⟩ x (mD xs tb) (sX ⟨md,cls,lab,tb.nx,[]⟩ (λ_:Unit=>True) (λ_=>S) (λ_=>T) (λ_=>0) 1 (λ_ _=>False)))(h2:aw P ⟨md,cls,lab,tb.nx,[]⟩ y (NQ S T) (ur P fn (Gg tb.nx rs a_))):dm P f xs tb r a_:=by
 refine⟨⟨fn,hf,hnm,by grind⟩,λg w vs F hw hvs=>?_⟩;have hlen:=hvs.length;simp only[bG]at hk;refine calls_of_wp_defers hf hb ?_
 let fr:Fr:=⟨w,g.M,F,g,fn.ntmps,[]⟩
 have hfr:uE fr tb.nx:=λi hi=>hw.fresh i O;have qf:jK fr (mD xs tb) {tmps:=vs.toArray++Array.replicate (fn.ntmps-vs.toArray.size) undef,defers:=[]} w:=by
  refine⟨g,G.le_refl g,hw,?_,?_,rfl⟩
  .intro t;have:=oE (g:=g) xs vs 0 hvs t;simp only[Nat.sub_zero,q_,cr]at this;show bJ _ _ (mW xs 0 t);by_cases ht:t<vs.length
   .have e:(vs.toArray++Array.replicate (fn.ntmps-vs.toArray.size) undef).getD t undef=(vs[t]?).getD undef:=by
     simp[F0,ht]
    grind
   .rw[rC xs 0 t O];exact .any _
  grind
 refine wp_seq (wp_mono (iU (fr:=fr) (cx:=⟨md,cls,lab,tb.nx,[]⟩) hm hfr x _ _ hk.1 h1 _ w qf) ?_);rintro e a1 w1 ⟨st,hq,hs⟩;cases e with
 |normal=>
  obtain⟨_,_,_,rn,k1,k2⟩:=hq;have hs1:=mS rn k1 k2 fr a1 w1 hfr hs;obtain⟨g1,s0,s1,s2,s3,s4⟩:=hs1;refine wp_seq (wp_region_list ?_);simp only[wpList];rw[ai (by simp[Region.wanted,hmg])];left;have akQ:(execOp a1.eval mk).run P w1= .ok (.value (.func (.func cl) #[] (caps.map a1.eval))) w1:=by
   simp[execOp,hmk,Instr.makeFunc]
  show Oper.wp P mk a1 w1 _ _;unfold Oper.wp;rw[akQ,Oper.upon_value];obtain⟨a2,ha2⟩:=lT (a1.put mk.dst (.func (.func cl) #[] (caps.map a1.eval)));have hev:a2.eval (.tmp d)= .func (.func cl) #[] (caps.map a1.eval):=by
   rw[<-ha2,hmd];have:d<a1.tmps.size:=by grind
   simp[Act.eval,Act.put,this]
  have q2:jK fr (NQ S T) a2 w1:=by
   refine⟨g1,s0,s1,λt=>?_,by grind [CU],by grind [GM]⟩;rw[<-ha2,hmd];simp only[Act.put];by_cases e:t=d
   .subst e;show bJ g1 _ (ze S t);rw[hd];exact .any _
   .have:=s2 t;simp only[yB]at this⊢
    grind
  rw[ha2];show if _ then _ else _
  rw[ai (by simp[Region.wanted,hdg])];left;have N4:(execOp a2.eval df).run P w1= .ok (.defer {target:= .fn (.func cl) (caps.map a1.eval),args:=#[]}) w1:=by
   simp[execOp,hdf,resolve,hev,Deferred.ofValue]
  rw[N4,Oper.upon_defer,hdd]
  let fr2:Fr:=⟨w,g.M,F,g,fn.ntmps,[{target:= .fn (.func cl) (caps.map a1.eval),args:=#[]}]⟩
  have q3:jK fr2 (NQ S T) ({a2 with defers:={target:= .fn (.func cl) (caps.map a1.eval),args:=#[]}::a2.defers}.put none undef) w1:=by
   obtain⟨g2,t0,t1,t2,t3,t4⟩:=q2;exact⟨g2,t0,t1,t2,t3,by show _::a2.defers=_;grind⟩
  show Exit.then _ _ Exit.normal _ _;refine wp_mono (iU (fr:=fr2) (cx:=⟨md,cls,lab,tb.nx,[]⟩) hm hfr y _ _ hk.2 h2 _ w1 q3) ?_;rintro e a w' ⟨st,hq,hs⟩;obtain⟨g',h0,h3,h4,h5,h6⟩:=hs;have fin:CS P (Gg tb.nx rs a_) st.tb (nH P st fn.results.toList)->Leaves P fn a.tmps (λe w'=>∃v g',e=Ending.returned v/\g.le g'/\bf w g.M F a_ g' w'/\bJ g' v r) a.defers .returning w':=by
   intro hres;unfold CS at hres;split at hres
   .rename_i zs hz;obtain⟨us,k5,k6⟩:=xy h4 h3 _ _ hz;rw[h6];refine leaves_cons (f:=cl) (args:=caps.map a1.eval) H (by grind [invoke,iH]) ?_;refine(kW _ _).mono ?_;rintro e u' w2 ⟨⟨v,rfl⟩,rfl,rfl⟩;obtain⟨rn,⟨j1,j2,j3,j4,j5,j6⟩,hto,wY⟩:=hres;refine⟨_,qF k5,_,g'.cp (Cf rn) a_.nx,rfl,G.mS h0 (iM:=tb.nx) (λi hi=>hw.fresh i O) j2 (λi hi=>nS j1 hi),h3.cp j3 j4 j5 j6,?_⟩
    grind [pZ,ie,ig]
   grind
  cases e with
  |normal=>exact fin hq
  |ret=>exact fin hq
  |_=>exact hq.elim
 |_=>exact hq.elim
end
def Gv(o:Oper):Bool:=match o.op with
 | .defer _=>false
 |_=>true
def PW{o:Oper}(h:Gv o=true):∀c,o.op≠ .defer c:=by
 grind [Gv]
section
variable{P:Program}
theorem zW{ops:Array Oper}{Q:Exit->Act->World->Prop}{l0 n:Nat}(hQ:¬LetsOut Q):∀(l:List Oper),l.all Gv=true->∀a w,wpList P ops Q l a w->wpListIn (Fence.wide.inRound l0) n P ops Q l a w
 |[],_,a,w,h=>h
 |o::l,hd,a,w,h=>by
  simp only[yE,bG]at hd;have ih:∀a w,wpList P ops Q l a w->wpListIn (Fence.wide.inRound l0) n P ops Q l a w:=zW hQ l hd.2;unfold wpListIn;unfold wpList at h;split
  .rename_i hw;rw[ai hw]at h;refine⟨λ_ _=>trivial,?_⟩;rw[Oper.semAt_eq _ _ _ (PW hd.1)];have h:o.wp P a w (wpList P ops Q l) Q:=h.resolve_right λk=>hQ k.2;unfold Oper.wp at h;generalize(execOp a.eval o).run P w=r at h;unfold Oper.upon at h;unfold Oper.uponIn;split at h
   .grind
   .grind
   .grind
   .refine⟨(λh=>by simp[Fence.wide]at h),CallsIn.inRound l0 (callsIn_wide.2 (h.mono ?_))⟩
    grind
   .refine⟨(λh=>by simp[Fence.wide]at h),?_⟩;intro c cs _;obtain⟨v,w',r,s⟩:=h c cs;exact⟨v,w',ih _ _ r,stepsIn_wide.2 s⟩
   all_goals grind
  .rename_i hw;rw[ah hw]at h;exact⟨λ_ _=>trivial,ih _ _ h⟩
def y9:Code->Bool
 | .skip=>true
 | .region _ ops d=>!d&&ops.toList.all Gv
 | .seq x y=>y9 x&&y9 y
 | .block _ x=>y9 x
 | .exit _=>true
 |_=>false
variable{fr:Fr}
theorem tP{cx:Cx}{l0 n:Nat}:∀(c:Code) (st:AS) (Q:Exit->AS->Prop),y9 c=true->codeOk cx.cls cx.ot fr.n c=true->(∀st,¬Q .outgrown st)->aw P cx c st Q->∀a w,jK fr st a w->c.wpIn (Fence.wide.inRound l0) n P (Post fr Q) a w
 | .skip,st,Q,_,_,_,h,a,w,hs=>wpIn_skip ⟨st,h,hs⟩
 | .exit id,st,Q,_,_,_,h,a,w,hs=>wpIn_exit ⟨st,h,hs⟩
 | .region id ops d,st,Q,hc,hk,hQ,h,a,w,hs=>by
  simp only[codeOk,bG,vb,sj]at hk;simp only[y9,bG,sj]at hc;obtain⟨rfl,hc⟩:=hc;have hQ':¬LetsOut (Post fr Q):=λ⟨a,w,st,q,_⟩=>hQ st q;refine wpIn_region_list (zW hQ' _ hc a w ?_);simp only[aw]at h;unfold Lx at h
  grind [y_,Post,sW]
 | .seq x y,st,Q,hc,hk,hQ,h,a,w,hs=>by
  simp only[codeOk,bG]at hk;simp only[y9,bG]at hc;simp only[aw]at h;refine wpIn_seq (wpIn_mono (tP x st _ hc.1 hk.1 O h a w hs) ?_);rintro e a' w' ⟨st',hq,hs'⟩;cases e with
  |normal=>exact tP y st' Q hc.2 hk.2 hQ hq a' w' hs'
  |_=>exact⟨st',hq,hs'⟩
 | .block id x,st,Q,hc,hk,hQ,h,a,w,hs=>by
  simp only[codeOk]at hk;simp only[y9]at hc;simp only[aw]at h;refine wpIn_block (wpIn_mono (tP x st _ hc hk O h a w hs) ?_);rintro e a' w' ⟨st',hq,hs'⟩;cases e with
  |exit j=>
   simp only[Exit.inBlock];simp only at hq;split
   .rename_i e;rw[ai e]at hq;exact⟨st',hq,hs'⟩
   .rename_i e;rw[ah e]at hq;exact⟨st',hq,hs'⟩
  |_=>exact⟨st',hq,hs'⟩
 | .cond ..,_,_,hc,_,_,_,_,_,_=>by simp[y9]at hc
 | .loop ..,_,_,hc,_,_,_,_,_,_=>by simp[y9]at hc
 | .ret,_,_,hc,_,_,_,_,_,_=>by simp[y9]at hc
 | .goto ..,_,_,hc,_,_,_,_,_,_=>by simp[y9]at hc
 | .label ..,_,_,hc,_,_,_,_,_,_=>by simp[y9]at hc
 | .rangeFunc ..,_,_,hc,_,_,_,_,_,_=>by simp[y9]at hc
def bf.grown{w0:World}{M0:Mem}{F:Nat->Prop}{tb:Tb}{g:G}{W W':World}{row:Option Nat}(h:bf w0 M0 F tb g W)(hg:W.grownBy W' row)(hr:∀r,row=some r->w0.heap.size<=r/\∃o:Obj,W.heap[r]?=some o/\o.isCells=false):bf w0 M0 F tb g W':=by
 have hcell:∀{k:Nat} {o:Obj},W.heap[k]?=some o->o.isCells=true->W'.heap[k]?=some o:=λhk hc=>(grownBy_keeps_cells hg (λr e=>(hr r e).2) hk hc).trans hk;refine⟨⟨λb o v e=>?_,h.holds.g⟩,⟨hg.os.trans h.keep.os,hg.tape.trans h.keep.tape,hg.output.trans h.keep.output,cT h.keep.size hg.size,λk hk hf=>?_⟩,h.old,h.HC,λid o e=>?_,λid el sz e=>?_,h.iC,h.jA,h.gS,h.fresh⟩
 .have hc:=h.holds b o v e
  grind [cells_of_cell,World.cell?]
 .rw[<-h.keep.block k hk hf];refine hg.block k (Nat.lt_of_lt_of_le hk h.keep.size) ?_
  grind
 .obtain⟨b,c,h1,hr',h0⟩:=h.boxes id o e;refine⟨b,c,h1,λhc=>?_,h0⟩;obtain⟨cur,h2,h3,⟨tt,fz,h4,fo⟩,h5⟩:=hr' hc;exact⟨cur,h2,h3,⟨tt,fz,hcell h4 rfl,fo⟩,h5⟩
 .obtain⟨v,h1,h2⟩:=h.rows id el sz e;refine⟨v,h1,h2.imp (λh=>h) ?_⟩;rintro⟨b,n,cap,cur,h3,h4,⟨tt,fz,h5,fo⟩,h6⟩;exact⟨b,n,cap,cur,h3,h4,⟨tt,fz,hcell h5 rfl,fo⟩,h6⟩
end
end Go.Av
namespace Go.Av
open Go.Proofs Go.Proofs.Tryz Go.aL Go.RowKit
def tW{P:Program}{fr:Fr}{cx:Cx}{x y:Code}{st:AS}{a:Act}{w:World}{n:Nat}{Q:Exit->Act->World->Prop}(S:List (Nat×AV))(T:Tb)(hm:P.follows .mixedOrders=true)(hfr:uE fr cx.iM)(hk:codeOk cx.cls cx.ot fr.n x=true)(hs:jK fr st a w)(h:aw P cx x st (sX cx (λ_:Unit=>True) (λ_=>S) (λ_=>T) (λ_=>0) 1 (λ_ _=>False)))(hy:∀a w,jK fr (NQ S T) a w->y.wpIn Fence.wide n P Q a w):(Code.seq x y).wpIn Fence.wide n P Q a w:=by
 refine wpIn_seq (wpIn_mono (wpIn_wide.2 (iU hm hfr x _ _ hk h _ w hs)) ?_);rintro e a1 w1 ⟨st,hq,hs⟩;cases e with
 |normal=>
  obtain⟨_,_,_,rn,k1,k2⟩:=hq;exact hy _ _ (mS rn k1 k2 fr a1 w1 hfr hs)
 |_=>exact hq.elim
def U8(b:aF):cq 223 [cK b,.int 64] (.fn (.func 304) [(cK b).ref,(PC.int 64).ref]):=by
 refine ay [_] func223 rfl ?_;simp[results223]
def CH(b:aF)(k:Nat):aF:=(b.drop (64*k)).take 64
def vu(c:aF):dY:=c++List.replicate (64-c.length) 0
def mA(b:aF)(pre:List Nat):Tb:=⟨[(0,⟨93,1,[.own (pre.length+1) ((pre.map λk=>cK (vu (CH b k))))]⟩)],[(pre.length+1,22,1)],pre.length+2⟩
def tX:Value->Nat->Value
 | .slice (some a) len _,k=>Tryz.piece a.block a.off len k
 |_,_=> .slice none 0 0
abbrev bvs(l:aF):List Value:=l.map λb=>Value.int .u8 b.toNat
def zc(l:aF):cellsOf (bvs l)=bvs l:=wC (M:=λ_ _=>none) (by
 intro v hv;obtain⟨x,_,rfl⟩:=bE.1 hv;rfl)
def LC{M:Mem}{u:Value}{b:aF}(h:jc M u (cK b)):(∃sa c,u= .slice sa 0 c/\b=[])\/∃bb off cap,u= .slice (some ⟨bb,off,none⟩) b.length cap/\b.length<=cap/\cap<=maxLen/\At M bb off (bvs b):=by
 generalize hy:cK b=y at h;cases h with
 |dX=>
  left;injection hy with hy;have:b=[]:=by simpa[af]using hy
  exact⟨_,_,rfl,this⟩
 |ug ad=>
  left;injection hy with hy;have:b=[]:=by simpa[af]using hy
  exact⟨_,_,rfl,this⟩
 |@sl bb off n cap sz us xs hn hc hm hsz hu h1 eM h=>
  injection hy with hy;subst hy;right;obtain rfl:=lU b h;have:n=b.length:=U hn.symm;subst this;rw[zc]at eM;exact⟨bb,off,cap,rfl,hc,hm,eM⟩
 |_=>cases hy
def Qi{M:Mem}{u:Value}{b:aF}(h:jc M u (cK b))(k:Nat):jc M (tX u k) (cK (CH b k)):=by
 rcases LC h with⟨sa,c,rfl,rfl⟩|⟨bb,off,cap,rfl,hc,hm,eM⟩
 .have e:CH [] k=[]:=by simp[CH]
  rw[e];cases sa with
  |none=>exact .dX
  |some ad=>
   show jc M (.slice (some ⟨ad.block,ad.off+64*k,none⟩) (Nat.min 64 (0-64*k)) (Nat.min 64 (0-64*k))) _;have e0:Nat.min 64 (0-64*k)=0:=by rw[Nat.zero_sub];rfl
   rw[e0];exact .ug _
 .have e0:(CH b k).length=Nat.min 64 (b.length-64*k):=by simp[CH,Nat.min_def]
  show jc M (.slice (some ⟨bb,off+64*k,none⟩) (Nat.min 64 (b.length-64*k)) (Nat.min 64 (b.length-64*k))) _;refine .sl (us:=bvs (CH b k)) (sz:=1) (by simp[e0]) (aX _) ?_ O ?_ ?_ ?_ (mO M _)
  .have:Nat.min 64 (b.length-64*k)<=64:=Nat.min_le_left _ _;exact cT this (by decide)
  .intro v hv;obtain⟨x,_,rfl⟩:=bE.1 hv;rfl
  .intro v hv;rw[zc]at hv;obtain⟨x,_,rfl⟩:=bE.1 hv;rfl
  .rw[zc];intro j v e;rw[ow];refine eM _ _ ?_;simp only[bvs,CH,sO,u_,F3]at e⊢;split at e
   .exact e
   .simp at e
def U9(c:aF)(h:c.length<=64):List.map AV.p (List.flatMap fM (List.take (c.length.min 64) (af c)))++List.drop (c.length.min 64) (bH 0 (List.replicate 64 (AV.p (PC.sc (Value.int .u8 0)))))=(af (vu c)).map AV.p:=by
 have e:c.length.min 64=c.length:=eS h;have e2:∀l,List.flatMap fM (af l)=af l:=λl=>by
  induction l with
  |nil=>rfl
  |cons x l ih=>simpa[af]using ih
 rw[e,gv (by simp[af]),e2,fj (q_ _),List.drop_replicate];simp[vu,af]
def Qj{tb a_:Tb}{id:Nat}{m:Option Nat}{xs:List AV}{c:aF}(hl:lk id tb.bx=some ⟨5,1,xs⟩)(hx:xs=(af c).map AV.p)(hc:c.length=64)(ht:a_=⟨del id tb.bx,tb.rw,tb.nx+1⟩):Gz tb a_ [.view id 0 64 1 m] [cK c]:=by
 subst hx;refine⟨_,⟨_,hl,rfl,rfl,O,by simp[af,hc],?_,by simp[af,hc],λy h=>cJ _ y h,λy h=>j8 _ y h,ht⟩,rfl⟩;rw[wX,j7];exact gv (by simp[af,hc])
def NR{w0:World}{M0:Mem}{F:Nat->Prop}{tb ts:Tb}{g:G}{W W1:World}(hW:bf w0 M0 F tb g W)(hb:∀i o,lk i ts.bx=some o->lk i tb.bx=some o)(hr:∀i r,lk i ts.rw=some r->lk i tb.rw=some r)(hk:vj (LD g ts) W W1):∀(k:Nat) (o:Obj),W.heap[k]?=some o->o.isCells=false->W1.heap[k]?=some o:=by
 intro k o hk' ho;refine(hk.block k (AK hk') ?_).trans hk';rintro(⟨id,ob,c,e1,e2,hp⟩|⟨id,r,v,e1,e2,e3⟩)
 .obtain⟨cur,_,_,⟨tt,fz,f4,_⟩,_⟩:=(hW.boxes _ _ (hb _ _ e1)).real e2 hp;rw[f4]at hk';cases hk';cases ho
 .obtain⟨v',f1,f2⟩:=hW.rows _ r.1 r.2 (hr _ _ e1);rw[e2]at f1;injection f1 with f1;subst f1;rcases f2 with⟨ad,n,rfl⟩|⟨b',n,cap,cur,rfl,f3,⟨tt,fz,f4,_⟩,f5,f6,_⟩
  .rw[iW]at e3;cases e3
  .rw[ey f6]at e3;injection e3 with e3;subst e3;rw[f4]at hk';cases hk';cases ho
def Qk(k:Nat):∀(b:aF),b.length<=k->secs k b=(List.range ((b.length+63)/64)).map λk=>vu (CH b k):=by
 induction k with
 |zero=>intro b h;have:b=[]:=o5 O;subst this;rfl
 |succ k ih=>
  intro b h;unfold secs;split
  .rename_i h;subst h;rfl
  .rename_i hb;have:0<b.length:=Fj.2 hb;rw[ih _ (by simp;omega)];have e:(b.length+63)/64=((b.drop 64).length+63)/64+1:=by simp;omega
   rw[e,List.range_succ_eq_map,dB,jF];congr 1
   .simp only[vu,CH,Nat.mul_zero,jx,lV];congr 2;omega
   .apply yG;intro j _;simp only[Function.comp,CH,oy];congr 3;omega
def U_(b:aF):b9 b=(List.range ((b.length+63)/64)).map λk=>vu (CH b k):=Qk _ b (aX _)
def IL(b:aF)(hb:b.length<=1000000000):bN 144 [.p (cK b)] ⟨[],[],0⟩ (.p (.sl ((b9 b).map cK))) ⟨[],[],(b.length+63)/64+2⟩:=by
 refine⟨⟨Tryz.f144,func144,bp,bp⟩,λg w vs F hw hvs=>(callsIn_wide (n:=3)).1 ?_⟩;refine callsIn_of_wp_marks func144 rfl trivial ?_ rfl;have hlen:=hvs.length
 let fr:Fr:=⟨w,g.M,F,g,18,[]⟩
 have hfr:uE fr 0:=λi hi=>hw.fresh i O;have qf:jK fr (mD [.p (cK b)] ⟨[],[],0⟩) {tmps:=vs.toArray++Array.replicate (Tryz.f144.ntmps-vs.toArray.size) undef,defers:=[]} w:=by
  refine⟨g,G.le_refl g,hw,?_,?_,rfl⟩
  .intro t;have:=oE (g:=g) [.p (cK b)] vs 0 hvs t;simp only[Nat.sub_zero,q_,cr]at this;show bJ _ _ (mW [.p (cK b)] 0 t);by_cases ht:t<vs.length
   .have e:(vs.toArray++Array.replicate (Tryz.f144.ntmps-vs.toArray.size) undef).getD t undef=(vs[t]?).getD undef:=by
     simp[F0,ht]
    rw[e];exact this
   .rw[rC [.p (cK b)] 0 t (by simp at hlen⊢;omega)];exact .any _
  .simp[fr,hlen,ntmps144]
 refine tW (cx:=⟨[],[],[],0,[]⟩) [(0,.p (cK b))] ⟨[],[],0⟩ mixed hfr bp qf ?_ ?_
 .simp;exact⟨[],H,H⟩
 clear qf;intro a w1 qf;refine tW (cx:=⟨[],[],[],0,[]⟩) [(0,.p (cK b)),(3,.obj 0 0)] ⟨[(0,⟨93,1,[.p .nil]⟩)],[],1⟩ mixed hfr bp qf ?_ ?_
 .simp;exact⟨[(0,0)],H,H⟩
 clear qf;intro a w1 qf;refine wpIn_seq ?_;refine tW (cx:=⟨[],[],[],0,[]⟩) [(0,.p (cK b)),(3,.obj 0 0),(7,.p (.fn (.func 304) [(cK b).ref,(PC.int 64).ref]))] ⟨[(0,⟨93,1,[.p .nil]⟩)],[],1⟩ mixed hfr bp qf ?_ ?_
 .have hC:=U8 b;simp;refine cm hC ?_;simp;exact⟨[(0,0)],H,H⟩
 clear qf;intro a w1 qf;refine wpIn_block ?_;have qf:jK fr (NQ [(0,.p (cK b)),(3,.obj 0 0),(7,.p (.fn (.func 304) [(cK b).ref,(PC.int 64).ref]))] (mA b [])) a w1:=(j9 (iM:=0) (st:=NQ [(0,.p (cK b)),(3,.obj 0 0),(7,.p (.fn (.func 304) [(cK b).ref,(PC.int 64).ref]))] ⟨[(0,⟨93,1,[.p .nil]⟩)],[],1⟩) 0 0 22 1 ⟨93,1,[.p .nil]⟩ [] rfl (.inr ⟨rfl,rfl⟩)) fr a w1 hfr qf;obtain⟨g2,h0,h1,h2,h3,h4⟩:=qf;have hv7:bJ g2 (a.tmps.getD 7 undef) (.p (.fn (.func 304) [(cK b).ref,(PC.int 64).ref])):=h2 7;have hv3:bJ g2 (a.tmps.getD 3 undef) (.obj 0 0):=h2 3;have NS:bf w g.M F (mA b []) g2 w1:=h1;obtain⟨Bs,os,Bn,on,u,hu7,ZU,RO,hBn⟩:∃Bs os Bn on u,a.tmps.getD 7 undef= .func (.func 304) #[] #[.pointer (some ⟨Bs,os,none⟩),.pointer (some ⟨Bn,on,none⟩)]/\g2.M Bs os=some u/\jc g2.M u (cK b)/\g2.M Bn on=some (.int .i64 64):=by
  generalize a.tmps.getD 7 undef=u7 at hv7;cases hv7 with
  |p h=>
   cases h with
   |fn hs=>
    cases hs with
    |cons r1 hs=>
     cases hs with
     |cons r2 hs=>
      cases hs;cases r1 with
      |ref at1 RO=>
       cases r2 with
       |ref at2 Kb=>
        cases Kb with
        |sc=>
         refine⟨_,_,_,_,_,rfl,at1 0 _ ?_,RO,at2 0 _ rfl⟩;rcases LC RO with⟨sa,c,rfl,_⟩|⟨bb,off,cap,rfl,_⟩<;>rfl
 have hseq:SeqStopsK Fence.wide (3-1) prog 304 #[.pointer (some ⟨Bs,os,none⟩),.pointer (some ⟨Bn,on,none⟩)] (λk:Nat=>#[tX u k]) (λA B=>(∀v,A.cell? ⟨Bs,os,none⟩=some v->B.cell? ⟨Bs,os,none⟩=some v)/\∀v,A.cell? ⟨Bn,on,none⟩=some v->B.cell? ⟨Bn,on,none⟩=some v) (λxs=>xs=List.range ((b.length+63)/64)) (λ_=>True) ((b.length+63)/64) w1:=by
  intro l J Jx W hW hJA aq' hY hJ0;have c1:=(hW.cell (p:=⟨Bs,os,none⟩) (NS.holds.lt ZU)).trans (NS.holds _ _ _ ZU);have c2:=(hW.cell (p:=⟨Bn,on,none⟩) (NS.holds.lt hBn)).trans (NS.holds _ _ _ hBn);have hz:∀(sa:Option Addr) c,u= .slice sa 0 c->b=[]->CallsIn Fence.wide (3-1) prog 304 (#[.func (.yield l) #[] #[]]++#[.pointer (some ⟨Bs,os,none⟩),.pointer (some ⟨Bn,on,none⟩)]) W λe W'=>(∃v,e= .returned v)/\((∃xs,(xs=List.range ((b.length+63)/64))/\J xs W')\/(∃pre,True/\Jx pre W')):=by
   intro sa c e hb0;rw[e]at c1;refine(Tryz.GA (3-1) l Bs os Bn on c sa J W c1 hJ0).mono ?_;rintro e W' ⟨he,hj⟩;exact⟨he,.inl ⟨[],by simp[hb0],hj⟩⟩
  rcases LC RO with⟨sa,c,e,hb0⟩|⟨bb,off,cap,e,hc,_⟩
  .exact hz _ _ e hb0
  .subst e;refine(Tryz.IQ (3-1) O l Bs os Bn on bb off b.length cap hb hc J Jx _ (λA B h=>h) ?_ W hJA c1 c2 hJ0).mono ?_
   .intro pre k W1 hj hl;exact hY pre k W1 hj hl
   .rintro e W' ⟨he,hj|⟨pre,hj⟩⟩
    .exact⟨he,.inl hj⟩
    .exact⟨he,.inr ⟨pre,trivial,hj⟩⟩
 have hKr:∀{A B:World} {row:Option Nat},A.grownBy B row->(∀r,row=some r->∃o:Obj,A.heap[r]?=some o/\o.isCells=false)->(∀v,A.cell? ⟨Bs,os,none⟩=some v->B.cell? ⟨Bs,os,none⟩=some v)/\∀v,A.cell? ⟨Bn,on,none⟩=some v->B.cell? ⟨Bn,on,none⟩=some v:=λhg hr=>⟨λv h=>cell_kept h hg hr,λv h=>cell_kept h hg hr⟩;refine wpIn_rangeFunc_ownG (F:=Fence.wide) rfl O (gf:=304) (lb:=#[.pointer (some ⟨Bs,os,none⟩),.pointer (some ⟨Bn,on,none⟩)]) hu7 trivial (enters_of func304 bp rfl) hseq (λh k=>⟨λv e=>k.1 v (h.1 v e),λv e=>k.2 v (h.2 v e)⟩) (λW l o o' hl ho hc _=>hKr (grownBy_putObj' W l o') (λr e=>by cases e;exact⟨o,ho,hc⟩)) (Below.refl _ _) (λ_=>rfl) (λpre W=>∃g',g2.le g'/\bf w g.M F (mA b pre) g' W) (λ_ _ _=>False) (λs A B row ⟨g',hle,h⟩ hg hr=>⟨g',hle,bf.grown h hg (λr e=>⟨cT NS.keep.size (hr r e).1,(hr r e).2⟩)⟩) (λ_ _ _ _ _ hs _ _=>hs) ⟨g2,G.le_refl _,NS⟩ (λx=>{tmps:=(a.tmps.setIfInBounds 8 (tX u x)).setIfInBounds 4 (tX u x),defers:=[]}) ?assign ?body ?done ?stop
 case stop=>
  rintro D c pre W _ _ h _;exact h.elim
 case assign=>
  intro l x W K hK;have hsz:a.tmps.size=18:=h3;refine wpIn_region_list ?_;simp[wpListIn,Region.wanted,Oper.wpIn,Oper.semAt,execOp,Oper.uponIn,Exit.then,Act.put,Act.eval,Oper.about,hsz];exact hK
 case body=>
  rintro l pre x W ⟨g',hle,hW⟩ hlt;have hsz:a.tmps.size=18:=h3;have hN:pre.length<20000000:=O;have HK:(pre.map λk=>cK (vu (CH b k))).length<20000000:=U hN;have hx:(CH b x).length<=64:=by simp[CH];omega
  let fr':Fr:=⟨W,g'.M,LD g' (mA b pre),g',18,[]⟩
  have aoL:uE fr' (pre.length+2):=λi hi=>hW.fresh i hi;have hP:bf W g'.M (LD g' (mA b pre)) (mA b pre) g' W:=hW.part (by simp[aA,mA]) (by simp[aA,mA]) rfl;have hpr:jc g'.M (tX u x) (cK (CH b x)):=Qi (RO.mono hle.M) x;generalize tX u x=up at hpr;have qf:jK fr' (NQ [(3,.obj 0 0),(4,.p (cK (CH b x)))] (mA b pre)) {tmps:=(a.tmps.setIfInBounds 8 up).setIfInBounds 4 up,defers:=[]} W:=by
   refine⟨g',G.le_refl _,hP,?_,by simp[fr',hsz],rfl⟩;intro t;show bJ g' _ (ze _ t);simp only[ze,AJ];split
   .rename_i e;subst e;have:=hv3.mono hle;simpa[Array.getElem?_setIfInBounds]using this
   .split
    .rename_i e;subst e;simpa[Array.getElem?_setIfInBounds,hsz]using bJ.p hpr
    .exact .any _
  refine wpIn_mono (tP (fr:=fr') (cx:=⟨[],[],[],pre.length+2,[]⟩) _ _ (sX ⟨[],[],[],pre.length+2,[]⟩ (λ_:Unit=>True) (λ_=>[]) (λ_=>mA b (pre++[x])) (λ_=>0) 1 (λ_ _=>False)) bp bp (λ_ h=>h) ?_ _ W qf) ?_
  .generalize hcc:CH b x=c at hx;have akF:=U9 c hx;have hpl:(vu c).length=64:=by simp[vu];omega
   have NT:∀y∈pre.map (λk=>cK (vu (CH b k))),y.width=1:=by
    intro y hy;obtain⟨k,_,rfl⟩:=bE.1 hy;rfl
   simp only[mA,jB,dB,qN,hcc,mo,cF,fQ];have hyl:(pre.map (λk=>cK (vu (CH b k)))).length=pre.length:=H;generalize pre.map (λk=>cK (vu (CH b k)))=ys at HK NT hyl;generalize pre.length=q at hN hyl;simp;refine⟨by decide,λy h=>cJ _ y h,λy h=>j8 _ y h,?_⟩;refine U' [cK (vu c)] ⟨[(0,⟨93,1,[.own (q+1) ys]⟩)],[(q+1,22,1)],q+4⟩ (by simp[bW]) (Qj (by simp[lk]) akF hpl (by simp[del])) H H ?_;simp;refine⟨NT,O,O,?_⟩;exact aE [(q+2,q+4)] H
  .rintro e a1 W1 ⟨st,hq,hs⟩;cases e with
   |normal=>
    obtain⟨_,_,_,rn,k1,k2⟩:=hq;obtain⟨g3,j0,j1,j2,j3,j4⟩:=mS rn k1 k2 fr' a1 W1 aoL hs;have hB:=hW.back (ts:=mA b pre) (by simp[aA,mA]) (by simp[aA,mA]) j0 j1;have hF:=NR hW (λ_ _ h=>h) (λ_ _ h=>h) j1.keep;refine⟨⟨j1.keep.size,λk o _ hk ho=>hF k o hk ho⟩,⟨λv e=>?_,λv e=>?_⟩,g3,hle.trans j0,?_⟩
    .rw[hW.holds _ _ _ (hle.M _ _ _ ZU)]at e;rw[<-e];exact hB.holds _ _ _ (j0.M _ _ _ (hle.M _ _ _ ZU))
    .rw[hW.holds _ _ _ (hle.M _ _ _ hBn)]at e;rw[<-e];exact hB.holds _ _ _ (j0.M _ _ _ (hle.M _ _ _ hBn))
    .simpa[Tb.merge,mA,cX,del]using hB
   |_=>exact hq.elim
 case done=>
  rintro D ys W hD rfl ⟨g',hle,hW⟩ hK;have hsz:a.tmps.size=18:=h3;have hds:a.defers=[]:=h4;have hl0:(List.range ((b.length+63)/64)).length=(b.length+63)/64:=List.length_range;have Dz:=U_ b
  let fr7:Fr:=⟨W,g'.M,LD g' (mA b (List.range ((b.length+63)/64))),g',18,[{target:= .collected D,args:=#[]}]⟩
  have aoM:uE fr7 ((b.length+63)/64+2):=λi hi=>hW.fresh i (by rw[<-hl0]at hi;exact hi);have hP:bf W g'.M (LD g' (mA b (List.range ((b.length+63)/64)))) (mA b (List.range ((b.length+63)/64))) g' W:=hW.part (by simp[aA,mA]) (by simp[aA,mA]) rfl;have akG:jK fr7 (NQ [(3,.obj 0 0)] (mA b (List.range ((b.length+63)/64)))) {a with defers:={target:= .collected D,args:=#[]}::a.defers} W:=by
   refine⟨g',G.le_refl _,hP,?_,hsz,by simp[fr7,hds]⟩;intro t;show bJ g' _ (ze _ t);simp only[ze,AJ];split
   .rename_i e;subst e;exact hv3.mono hle
   .exact .any _
  simp only[Exit.inBlock,Exit.then];refine tW (cx:=⟨[],[],[],(b.length+63)/64+2,[]⟩) [(2,.own ((b.length+63)/64+1) ((b9 b).map cK))] (mA b (List.range ((b.length+63)/64))) mixed aoM bp akG ?_ ?_
  .have aoN:(b9 b).map cK=(List.range ((b.length+63)/64)).map λk=>cK (vu (CH b k)):=by rw[Dz,jF];rfl
   rw[aoN];simp only[mA,hl0];generalize(List.range ((b.length+63)/64)).map (λk=>cK (vu (CH b k)))=ys;generalize(b.length+63)/64=q;simp;exact⟨[],H,H⟩
  .intro a3 W3 hs3;refine wpIn_ret ?_;obtain⟨g3,j0,j1,j2,j3,j4⟩:=hs3;have hB:=hW.back (ts:=mA b (List.range ((b.length+63)/64))) (by simp[aA,mA]) (by simp[aA,mA]) j0 j1;have hDk:=NR hW (ts:=mA b (List.range ((b.length+63)/64))) (λ_ _ h=>h) (λ_ _ h=>h) j1.keep D _ hK rfl;have hg4:=grownBy_putObj' W3 D (.deferred none);have hS4:=hB.grown hg4 (λr e=>by cases e;exact⟨cT NS.keep.size hD,_,hDk,rfl⟩);have zJ:bJ g3 (a3.tmps.getD 2 undef) (.own ((b.length+63)/64+1) ((b9 b).map cK)):=j2 2;show LeavesInM Fence.wide 3 prog Tryz.f144 a3.tmps _ a3.defers .returning W3;rw[j4];refine⟨H,.inl ⟨D,_,rfl,run_takeDeferred hDk,?_⟩⟩;refine⟨_,results_tmp rfl _ _ _,_,g3,rfl,G.le.trans h0 (hle.trans j0),?_,?_⟩
   .refine hS4.sub (λi o e=>by simp[lk]at e) (λi r e=>by simp[lk]at e) ?_;simp[Tb.merge,mA]
   .generalize a3.tmps.getD 2 undef=v2 at zJ⊢;cases zJ with
    |own e hr=>exact .p hr
def vo(b:aF)(hb:b.length<=1000000000):cq 144 [cK b] (.sl ((b9 b).map cK)):=bF (xs:=[cK b]) (IL b hb) ⟨_,rfl,.inl rfl⟩
def Va(k:Nat)(b:aF):∀s∈secs k b,s.length=64:=by
 induction k generalizing b with
 |zero=>intro s h;simp[secs]at h
 |succ k ih=>
  intro s h;unfold secs at h;split at h
  .simp at h
  .rcases fF.1 h with rfl|h
   .simp;omega
   .exact ih _ s h
def qB(b:aF):∀s∈b9 b,s.length=64:=Va _ b
def Vc(k:Nat)(b:aF)(h:b.length<=k):(secs k b).length=(b.length+63)/64:=by
 induction k generalizing b with
 |zero=>have:b=[]:=o5 O;subst this;rfl
 |succ k ih=>
  unfold secs;split
  .rename_i h;subst h;rfl
  .rename_i hb;have:0<b.length:=Fj.2 hb;rw[cF,ih _ (by simp;omega)];simp;omega
theorem dJ(b:aF):(b9 b).length=(b.length+63)/64:=Vc _ b (aX _)
end Go.Av
namespace Go.aL
def lK(D:bt)(a kind:Int)(b:List UInt8):bt×Int:=if(kH kind b).2=0 then D.write a (b9 (kH kind b).1)else(D,(kH kind b).2)
def iN(D:bt)(a:Int):bt×Nat×List UInt8×Int:=if(D.read a 8).2.2=0 then((D.read a 8).1,oe (D.read a 8).2.1.flatten)else((D.read a 8).1,0,[],(D.read a 8).2.2)
end Go.aL
namespace Go.Av
open Go.Proofs Go.Proofs.Tryz Go.aL
theorem yS(kind:Int)(b:aF):(kH kind b).1.length<=512:=by
 unfold kH;split
 .simp
 .split
  .simp
  .rw[gY];simp;omega
def Rg(D:bt)(b:Nat)(hD:fJ b D)(a kind:Int)(ha:-9223372036854775808<=a/\a<=9223372036854775807)(hk:-9223372036854775808<=kind/\kind<=9223372036854775807)(hb:b<=100000000000)(L:List (aF))(hL:L.flatten.length<=1000000000)(hL2:L.length<=1000000000):bN 433 [.obj 0 0,.p (.int a),.p (.int kind),.p (.sl (L.map cK))] ⟨eG 3 D,dN 3,4⟩ (.p (.int (lK D a kind L.flatten).2)) ⟨eG 4 (lK D a kind L.flatten).1,dN 4,5⟩:=by
 have hP:=ZX kind hk L hL hL2;have hlen:=yS kind L.flatten;refine aC [_] func433 rfl ?_;unfold lK;generalize kH kind L.flatten=p at*;obtain⟨x,e⟩:=p;simp only at*;simp;refine cm hP ?_;by_cases c:e=0
 .subst c;have hc:=dJ x;rw[ai rfl];simp;refine cm (vo x O) ?_;simp;refine aN (tL D b hD a ha (b9 x) O O) H (by simp[aA]) (by simp[aA]) rfl ?_;simp[results433];exact⟨[],by simp[ak]⟩
 .have c':(e !=0)=true:=U c;rw[ah c];simp[c',results433];exact⟨[(4,3)],by simp[ak]⟩
def Hy(L:List dY)(h:∀s∈L,s.length=64):L.flatten.length=L.length*64:=by
 induction L with
 |nil=>rfl
 |cons s L ih=>rw[jz,mo,ih (λs hs=>h s (by simp[hs])),h s H,cF];omega
def D9(D:bt)(b:Nat)(hD:fJ b D)(a n:Int):(∀s∈(D.read a n).2.1,s.length=64)/\(D.read a n).2.1.length<=65536:=by
 unfold bt.read;have:=hD.top;have:=hD.len;split
 .split
  .exact⟨λs hs=>hD.now s (fq (oa hs)),by simp;omega⟩
  .simp
 .simp
def SG(D:bt)(b:Nat)(hD:fJ b D)(a:Int)(ha:-9223372036854775808<=a/\a<=9223372036854775807):bN 430 [.obj 0 0,.p (.int a)] ⟨eG 3 D,dN 3,4⟩ (.agg true [.p (.int (iN D a).2.1),.p (cK (iN D a).2.2.1),.p (.int (iN D a).2.2.2)]) ⟨eG 4 (iN D a).1,dN 4,5⟩:=by
 have hR:=CV D b hD a 8 ha;obtain⟨r1,r2⟩:=D9 D b hD a 8;refine aC [_,_,_] func430 rfl ?_;unfold iN;generalize D.read a 8=p at*;obtain⟨E,l,e⟩:=p;simp only at*;have hf:=Hy l r1;simp;refine aN hR H (by simp[aA]) (by simp[aA]) rfl ?_;by_cases c:e=0
 .subst c;rw[ai rfl];simp;refine cm (GF l O O) ?_;simp;refine cm (Qm l.flatten O) ?_;simp[results430];exact⟨[],by simp[ak]⟩
 .have c':(e !=0)=true:=U c;rw[ah c];simp[c',results430,af];exact⟨[],by simp[ak]⟩
end Go.Av
namespace Go.aL
def zS(m:Int):UInt8:=UInt8.ofNat (m%256).toNat
def cL(n:Int)(size:Nat):List UInt8:=(List.range size).map λj=>zS (n/2^(8*(size-1-j)))
theorem bC(n:Int)(k:Nat):(cL n k).length=k:=by simp[cL]
end Go.aL
namespace Go.Av
open Go.Proofs Go.Proofs.Tryz Go.aL
def Vd{iM:Nat}{st:AS}(t:Nat)(el:TypeId)(s:Nat)(h:isNone (st.sl t)):st.le iM ⟨AJ st.sl t (.view st.tb.nx 0 0 s none),st.tb.bD ⟨el,s,[]⟩⟩:=by
 rintro fr a w hf ⟨g,h0,h1,h2,h3,h4⟩;obtain⟨ad,hv,AF⟩:∃ad,a.tmps.getD t undef= .slice ad 0 0/\(ad=none\/∃a',ad=some a'):=by
  have:=h2 t;generalize a.tmps.getD t undef=v at this⊢;unfold isNone at h;split at h
  .rename_i e;rw[e]at this;cases this with
   |full hr=>cases hr with
    |dX=>exact⟨none,rfl,.inl rfl⟩
    |ug a=>exact⟨_,rfl,.inr ⟨_,rfl⟩⟩
    |sl hn _ _ _ _ _ _ hs=>have:=hs.length;simp at this;rw[this]at hn;simp at hn;subst hn;exact⟨_,rfl,.inr ⟨_,rfl⟩⟩
  .rename_i e;rw[e]at this;have:=bO this;cases this;exact⟨none,rfl,.inl rfl⟩
  .exact h.elim
 refine⟨_,h0.trans (h1.nP 0 0),h1.GD el s,λu=>?_,h3,h4⟩;simp only[AJ];split
 .rename_i e;subst e;rw[hv];have:=bJ.view (g:=g.eN st.tb.nx 0 0) (id:=st.tb.nx) (b:=0) (c:=0) (o:=0) (n:=0) (s:=s) (a:=ad) (m:=none) (by simp[G.eN]) O (by unfold maxLen;omega) (.void rfl AF) H;simpa using this
 .exact(h2 u).mono (h1.nP 0 0)
def oA(m:Int):IntKind.u8.wrap m=((zS m).toNat:Int):=by
 have e1:IntKind.u8.bits=8:=rfl;have e2:IntKind.u8.signed=false:=rfl;unfold IntKind.wrap zS;simp only[e1,e2,gy,dZ,dc];rw[xY];omega
def CK(n:Int)(size k:Nat)(h:k<size):(cL n size).take (k+1)=(cL n size).take k++[zS (n/2^(8*(size-1-k)))]:=by
 rw[kG (by rw[bC];exact h)];congr 2;simp[cL]
def mU(nx:Nat)(pre tl:aF)(arg:AV)(bx:List (Nat×Ob))(id:Nat)(ha:arg= .view id 0 pre.length 1 none/\bx=[(id,gE (pre++tl))]\/arg= .p .nil/\pre=[]/\bx=[])(hp:pre.length<=1000000)(n:Int)(size:Nat)(hs:size<=8):bN 256 [arg,.p (.int n),.p (.int size)] ⟨bx,[],nx⟩ (.view nx 0 (pre.length+size) 1 none) ⟨[(nx,gE (pre++cL n size))],[],nx+1⟩:=by
 refine aC [_] func256 rfl ?_;have w0:IntKind.i64.wrap ((size:Int)-1)=(size:Int)-1:=aG;rcases ha with⟨rfl,rfl⟩|⟨rfl,rfl,rfl⟩
 .simp[w0];refine aS (λk:Nat=>k<=size) (λk=>[(0,.view nx 0 (pre.length+k) 1 none),(1,.p (.int n)),(7,.p (.int ((size:Int)-1-k)))]) (λk=>⟨[(nx,gE (pre++(cL n size).take k))],[],nx+1⟩) (λk=>size-k) 0 H _ (AS.le_refl _ _) (aE [(nx,id)] (by simp[af])) ?_;intro k hk;by_cases ck:k<size
  .have c1:(k:Int)<=(size:Int)-1:=O;have w1:IntKind.i64.wrap ((size:Int)-1-k-1)=(size:Int)-1-((k+1:Nat):Int):=by rw[aG];omega
   have w2:IntKind.i64.wrap (8*((size:Int)-1-k))=8*((size:Int)-1-k):=aG;have w3:IntKind.u8.wrap (n.fdiv (2^min (8*((size:Int)-1-k)).toNat IntKind.i64.bits))=((zS (n/2^(8*(size-1-k)))).toNat:Int):=by
    have e:min (8*((size:Int)-1-k)).toNat IntKind.i64.bits=8*(size-1-k):=by
     have e2:IntKind.i64.bits=64:=rfl;rw[e2];omega
    rw[e,mP _ (yC (yD O)),oA]
   have hts:=CK n size k ck;have hl:=bC n size;have ht1:List.take (pre.length+k) (List.map AV.p (af (pre++List.take k (cL n size))))=List.map AV.p (af (pre++List.take k (cL n size))):=gv (by simp[af];omega);simp[c1,w1,w2,w3,ht1];refine⟨O,O,O,O,k+1,O,O,aE [(nx,nx+1)] ?_⟩;rw[hts];simp[af,ow]
  .obtain rfl:k=size:=O;have c1:¬(k:Int)<=(k:Int)-1:=O;have hl:=bC n k;have ht:(cL n k).take k=cL n k:=gv O;simp[c1,results256,ht];exact⟨[],H⟩
 .simp[w0];refine aS (λk:Nat=>k<=size) (λk=>[(0,.view nx 0 (([]:aF).length+k) 1 none),(1,.p (.int n)),(7,.p (.int ((size:Int)-1-k)))]) (λk=>⟨[(nx,gE ([]++(cL n size).take k))],[],nx+1⟩) (λk=>size-k) 0 H _ (Vd 0 5 1 (by simp[isNone])) (aB (by simp[af])) ?_;generalize hpre:([]:aF)=pre at*;intro k hk;by_cases ck:k<size
  .have c1:(k:Int)<=(size:Int)-1:=O;have w1:IntKind.i64.wrap ((size:Int)-1-k-1)=(size:Int)-1-((k+1:Nat):Int):=by rw[aG];omega
   have w2:IntKind.i64.wrap (8*((size:Int)-1-k))=8*((size:Int)-1-k):=aG;have w3:IntKind.u8.wrap (n.fdiv (2^min (8*((size:Int)-1-k)).toNat IntKind.i64.bits))=((zS (n/2^(8*(size-1-k)))).toNat:Int):=by
    have e:min (8*((size:Int)-1-k)).toNat IntKind.i64.bits=8*(size-1-k):=by
     have e2:IntKind.i64.bits=64:=rfl;rw[e2];omega
    rw[e,mP _ (yC (yD O)),oA]
   have hts:=CK n size k ck;have hl:=bC n size;have ht1:List.take (pre.length+k) (List.map AV.p (af (pre++List.take k (cL n size))))=List.map AV.p (af (pre++List.take k (cL n size))):=gv (by simp[af];omega);simp[c1,w1,w2,w3,ht1];refine⟨O,O,O,O,k+1,O,O,aE [(nx,nx+1)] ?_⟩;rw[hts];simp[af,ow]
  .obtain rfl:k=size:=O;have c1:¬(k:Int)<=(k:Int)-1:=O;have hl:=bC n k;have ht:(cL n k).take k=cL n k:=gv O;simp[c1,results256,ht];subst hpre;exact⟨[],H⟩
end Go.Av
namespace Go.aL
def cZ(b:List UInt8):Int:=IntKind.i64.wrap (Go.Av.m7 b:Int)
end Go.aL
namespace Go.Av
open Go.Proofs Go.Proofs.Tryz Go.aL
def Ip(m:Int):IntKind.i64.wrap m%18446744073709551616=m%18446744073709551616:=by
 rw[IntWalk.i64_left];unfold RowKit.wrap64;omega
def Ns{m k:Int}(h:m%18446744073709551616=k%18446744073709551616):IntKind.i64.wrap m=IntKind.i64.wrap k:=by
 rw[IntWalk.i64_left,IntWalk.i64_left];unfold RowKit.wrap64;omega
def Cd(V x:Nat)(hx:x<256):bits .or .i64 (IntKind.i64.wrap (IntKind.i64.wrap (V:Int)*2^min 8 IntKind.i64.bits)) (x:Int)=IntKind.i64.wrap ((V*256+x:Nat):Int):=by
 have p:(2:Int)^min 8 IntKind.i64.bits=256:=rfl;rw[p];have e1:IntKind.i64.wrap (IntKind.i64.wrap (V:Int)*256)=IntKind.i64.wrap ((V*256:Nat):Int):=Ns (by
  have:=Ip (V:Int);rw[Int.mul_emod,this,<-Int.mul_emod];push_cast;rfl)
 rw[e1];unfold bits;have b:IntKind.i64.bits=64:=rfl;rw[b];simp only[BitVec.toNat_or,BitVec.toNat_ofInt,Fb,Fc];have e2:(IntKind.i64.wrap ((V*256:Nat):Int)%((2^64:Nat):Int)).toNat=(V%72057594037927936)*256:=by
  have:=Ip ((V*256:Nat):Int);have Ka:((2^64:Nat):Int)=18446744073709551616:=rfl;rw[Ka,this];omega
 rw[e2,uL (by omega:x<2^64)];have h:=Nat.shiftLeft_add_eq_or_of_lt (i:=8) (b:=x) O (V%72057594037927936);rw[Nat.shiftLeft_eq]at h;have h2:(V%72057594037927936)*256|||x=(V%72057594037927936)*256+x:=h.symm;rw[h2];exact Ns O
def AU(b:aF)(hb:b.length<=1000000000):cq 255 [cK b] (.int (cZ b)):=by
 refine ay [_] func255 rfl ?_;simp;have w00:IntKind.i64.wrap 0=0:=aG;refine bI (λk:Nat=>k<=b.length) (λk=>[(6,.p (cK b)),(7,.p (.int b.length)),(8,.p (.int k)),(3,.p (.int (cZ (b.take k))))]) (λk=>b.length-k) 0 H (aB (by simp[cZ,m7,w00])) ?_;intro k hk;by_cases ck:k<b.length
 .have w1:=ju k;have wx:IntKind.i64.wrap (b[k].toNat:Int)=(b[k].toNat:Int):=bQ O (by have:=b[k].toNat_lt;omega);have ho:=Cd (m7 (b.take k)) b[k].toNat (b[k].toNat_lt);have hts:cZ (b.take (k+1))=IntKind.i64.wrap ((m7 (b.take k)*256+b[k].toNat:Nat):Int):=by
   unfold cZ;rw[kG ck,mG]
  rw[<-hts]at ho;change bits .or .i64 (IntKind.i64.wrap (cZ (b.take k)*2^min 8 IntKind.i64.bits)) _=_ at ho;simp[ck,w1,wx,ho,eX];exact⟨k+1,O,O,aB H⟩
 .obtain rfl:k=b.length:=O;simp[results255]
def PK(b:aF)(z:Nat):(af b).map AV.p++List.replicate z (AV.p (PC.sc (.int .u8 0)))=(af (b++List.replicate z 0)).map AV.p:=by simp[af]
def fU(b:aF):aF:=b++List.replicate (64-b.length) 0
def p_(b:aF)(h:b.length<=64):(fU b).length=64:=by simp[fU];omega
def yQ(nx id:Nat)(hid:id<nx)(b:aF)(n:Nat)(hn:n=b.length)(hb:b.length<64):bN 179 [.view id 0 n 1 none] ⟨[(id,gE b)],[],nx⟩ (.view nx 0 64 1 none) ⟨[(nx,gE (fU b))],[],nx+1⟩:=by
 subst hn;refine aC [_] func179 rfl ?_;obtain⟨z,hz⟩:∃z:Nat,64-b.length=z:=⟨_,rfl⟩;have wz:IntKind.i64.wrap (64-(b.length:Int))=(z:Int):=by rw[aG];omega
 unfold fU;rw[hz];have ht:List.take b.length (List.map AV.p (af b))=List.map AV.p (af b):=gv (by simp[af]);have hz2:b.length+z=64:=O;simp[wz,results179,ht,hz2];have hr:=PK b z;refine⟨O,[],?_⟩;simp[hr]
def Co(nx:Nat):bN 179 [.p .nil] ⟨[],[],nx⟩ (.view nx 0 64 1 none) ⟨[(nx,gE (fU []))],[],nx+1⟩:=by
 refine aq [_] [7] [] [] func179 rfl ?_;have wz:IntKind.i64.wrap 64=64:=aG;simp[wz,results179];exact⟨[],by simp[fU,af]⟩
def w9{f:FuncId}{xs:List AV}{tb a_:Tb}{id n:Nat}{b:aF}(h:bN f xs tb (.view id 0 n 1 none) a_)(hl:lk id a_.bx=some (gE b))(hn:n=b.length):bN f xs tb (.p (cK b)) ⟨del id a_.bx,a_.rw,a_.nx+1⟩:=by
 subst hn;exact nO h hl rfl O (by simp[af]) (by simp only[o4];rw[wX,j7];exact gv (by simp[af])) (by simp[af]) (cJ b) (j8 b)
end Go.Av
namespace Go.aL
structure Mk where
 number:Int
 first:Int
 at':Int
def fW(m:Mk):dY:=(zN (cL m.number 8++84::(cL m.first 8++cL m.at' 4))).take 56++cL m.number 8
where zN (b:List UInt8):List UInt8:=b++List.replicate (64-b.length) 0
def sU(b:List UInt8)(rest n:Int):Mk×Bool:=let m:Mk:=⟨cZ (b.take 8),cZ ((b.drop 9).take 8),cZ ((b.drop 17).take 4)⟩;(m,m.number==cZ (b.drop 56)&&!(m.number==0)&&(m.number%2==rest)&&(b.getD 8 0==84)&&decide (2<=m.at')&&decide (m.at'<=n))
def Ua(all:List dY):Mk×Bool:=let a:=sU (all.getD 0 []) 0 all.length;let b:=sU (all.getD 1 []) 1 all.length;if a.2=true/\(b.2=false\/b.1.number<a.1.number)then(a.1,true)else b
end Go.aL
namespace Go.Av
open Go.Proofs Go.Proofs.Tryz Go.aL
abbrev mkL(m:Mk):List PC:=[.int m.number,.int m.first,.int m.at']
abbrev aeM(m:Mk):PC:= .agg false (mkL m)
def Nc(b:aF):fW.zN b=fU b:=rfl
theorem Eo(m:Mk):(fW m).length=64:=by
 unfold fW;rw[Nc,mo,lV,p_ _ (by simp[bC]),bC];rfl
def Ep(m:Mk):cq 183 [aeM m] (cK (fW m)):=by
 refine bF (xs:=[_]) (r:= .view 6 0 64 1 none) (a_:=⟨[(6,gE (fW m))],[],7⟩) ?_ (Ch _ 3 6 _ (by simp[lk]) _ (Eo m).symm);refine aq [_] [] [(2,[(3,.w []),(6,.w [])]),(3,[(1,.w []),(5,.w [])])] [] func183 rfl ?_;have l8:=bC m.number 8;have lf:=bC m.first 8;have la:=bC m.at' 4;obtain⟨b2,oK⟩:=lT (cL m.number 8++84::(cL m.first 8++cL m.at' 4));have l2:b2.length=21:=by rw[<-oK];simp[l8,lf,la]
 have lp:=p_ b2 O;have hS:fW m=(fU b2).take 56++cL m.number 8:=by unfold fW;rw[oK,Nc]
 rw[hS];obtain⟨p1,Y2⟩:=lT ((fU b2).take 56);obtain⟨p2,Yp⟩:=lT ((fU b2).drop 56);have hpp:fU b2=p1++p2:=by rw[<-Y2,<-Yp,eO]
 have lp1:p1.length=56:=by rw[<-Y2];simp[lp]
 rw[Y2];simp;refine aN (mU 0 [] [] (.p .nil) [] 0 (.inr ⟨rfl,rfl,rfl⟩) H m.number 8 O) H trivial trivial rfl ?_;have t1:List.take 8 (List.map AV.p (af (cL m.number 8)))=List.map AV.p (af (cL m.number 8)):=gv (by simp[af,l8]);have e1:(af (cL m.number 8)).map AV.p++[AV.p (PC.sc (.int .u8 84))]=(af (cL m.number 8++[84])).map AV.p:=by simp[af]
 simp[t1,l8,e1];refine oM (mU 2 (cL m.number 8++[84]) [] (.view 1 0 9 1 none) [(1,gE (cL m.number 8++[84]))] 1 (.inl ⟨by simp[l8],H⟩) (by simp[l8]) m.first 8 O) rfl ?_;simp[l8];refine oM (mU 3 (cL m.number 8++[84]++cL m.first 8) [] (.view 2 0 17 1 none) [(2,gE (cL m.number 8++[84]++cL m.first 8))] 2 (.inl ⟨by simp[l8,lf],H⟩) (by simp[l8,lf]) m.at' 4 O) rfl ?_;have e3:cL m.number 8++[84]++cL m.first 8++cL m.at' 4=b2:=by rw[<-oK];simp
 simp only[e3];simp[l8,lf];refine oM (yQ 4 3 O b2 21 l2.symm O) rfl ?_;simp;refine oM (mU 5 p1 p2 (.view 4 0 56 1 none) [(4,gE (fU b2))] 4 (.inl ⟨by simp[lp1],by rw[hpp]⟩) O m.number 8 O) rfl ?_;simp[lp1,results183];exact⟨[(6,5)],H⟩
def akp(a:Int):bits .and .i64 a 1=a%2:=by
 unfold bits;have b:IntKind.i64.bits=64:=rfl;rw[b];simp only[BitVec.toNat_and,BitVec.toNat_ofInt];have Ka:((2^64:Nat):Int)=18446744073709551616:=rfl;rw[Ka];have e1:((1:Int)%18446744073709551616).toNat=2^1-1:=rfl;rw[e1,Nat.and_two_pow_sub_one_eq_mod];rw[aG];omega
def En(b:aF)(hb:b.length=64)(rest n:Int):cq 254 [cK b,.int rest,.int n] (.tp [aeM (sU b rest n).1,.bool (sU b rest n).2]):=by
 have h1:=AU (b.take 8) (by simp;omega);have h2:=AU ((b.drop 9).take 8) (by simp;omega);have h3:=AU ((b.drop 17).take 4) (by simp;omega);have h4:=AU (b.drop 56) (by simp;omega);unfold sU;generalize cZ (b.take 8)=N at*;generalize cZ ((b.drop 9).take 8)=Fi at*;generalize cZ ((b.drop 17).take 4)=A at*;generalize cZ (b.drop 56)=T at*;have bw:∀y∈af b,1=y.width:=λy h=>(cJ b y h).symm;have k1:List.take 8 (af b)=af (b.take 8):=by simp[af]
 have k2:List.drop 9 (List.take 17 (af b))=af ((b.drop 9).take 8):=by simp[af,xT]
 have k3:List.drop 17 (List.take 21 (af b))=af ((b.drop 17).take 4):=by simp[af,xT]
 have k4:List.drop 56 (af b)=af (b.drop 56):=by simp[af]
 have h8:8<b.length:=O;have a1:=akp N;have hg:(b.getD 8 0==84)=((b[8].toNat:Int)==84):=by
  rw[u6,n_ h8];by_cases h:b[8]=84
  .simp[h]
  .have h1:(b[8]==84)=false:=U h;have h2:¬b[8].toNat=84:=λh3=>h (yt.1 h3);have h3:((b[8].toNat:Int)==84)=false:=by simp;omega
   simp[h1,h3]
 refine dK [_,_] [] [(1,[(10,.w []),(11,.w [])]),(2,[(1,.r 1),(8,.r 1),(13,.r 1),(26,.r 1),(31,.r 1)])] [(1,1)] func254 rfl ?_;simp only[hg];simp[k1,hb];refine⟨bw,aZ h1 ?_⟩;simp[k2,hb];refine⟨bw,aZ h2 ?_⟩;simp[k3,hb];refine⟨bw,aZ h3 ?_⟩;simp[k4,hb];refine⟨bw,aZ h4 ?_⟩;have g8:(af b)[8]?=some (sS b[8]):=by simp[af,h8]
 cases c1:(N==T)with
 |false=>
  simp[c1,results254]
 |true=>
  cases c2:(N==0)with
  |true=>simp[c1,c2,bne,results254]
  |false=>
   cases c3:(N%2==rest)with
   |false=>simp[c1,c2,c3,a1,bne,results254]
   |true=>
    cases c4:((b[8].toNat:Int)==84)with
    |false=>simp[c1,c2,c3,c4,a1,g8,bne,results254]
    |true=>
     by_cases c5:2<=A
     .by_cases c6:A<=n
      .simp[c1,c2,c3,c4,c5,c6,a1,g8,bne,results254]
      .simp[c1,c2,c3,c4,c5,c6,a1,g8,bne,results254]
     .simp[c1,c2,c3,c4,c5,a1,g8,bne,results254]
def Py(all:List dY)(h2:2<=all.length)(h3:all.length<=65536)(h:∀s∈all,s.length=64):cq 162 [.sl (all.map cK)] (.tp [aeM (Ua all).1,.bool (Ua all).2]):=by
 have e0:all.getD 0 []=all[0]:=by rw[u6,n_ O];rfl
 have e1:all.getD 1 []=all[1]:=by rw[u6,n_ O];rfl
 have hA:=En all[0] (h _ (bB _)) 0 all.length;have hB:=En all[1] (h _ (bB _)) 1 all.length;unfold Ua;rw[e0,e1];have g0:(all.map cK)[0]?=some (cK all[0]):=by rw[sO,n_ O];rfl
 have g1:(all.map cK)[1]?=some (cK all[1]):=by rw[sO,n_ O];rfl
 generalize sU all[0] 0 all.length=a at*;generalize sU all[1] 1 all.length=b at*;obtain⟨⟨a1,a2,a3⟩,ok⟩:=a;obtain⟨⟨b1,b2,b3⟩,is⟩:=b;refine ay [_,_] func162 rfl ?_;have l0:0<all.length:=O;have l1:1<all.length:=O;simp[l0];refine cm hA ?_;simp[l1];refine cm hB ?_;cases ok with
 |false=>simp[results162]
 |true=>
  cases is with
  |false=>simp[results162]
  |true=>
   by_cases c:b1<a1
   .simp[c,results162]
   .simp[c,results162]
end Go.Av
namespace Go.aL
def O_(size cy n a:Int):Bool:=decide (0<=a)&&decide (a<size)&&(decide (a<cy)||decide (cy+n<=a))
end Go.aL
namespace Go.Av
open Go.Proofs Go.Proofs.Tryz Go.aL
abbrev UH(D:bt):PC:= .agg false [.int D.n,.sl (D.bad.map PC.int),.int D.left,.sl (D.kept.map TV),.sl (D.now.map TV),.sl (D.q.map ZD)]
abbrev akw(D:bt)(cy n:Int):PC:= .agg false [.ref (UH D),.int cy,.int n]
def ZE(D:bt):cq 74 [.ref (UH D)] (.int D.kept.length):=by
 refine ay [_] func74 rfl ?_;simp[results74]
def Lt(D:bt)(hl:D.kept.length<=65536)(cy n a:Int)(hf:0<=cy/\cy<=1000000)(hn:0<=n/\n<=1000000):cq 259 [akw D cy n,.int a] (.bool (O_ D.kept.length cy n a)):=by
 have hS:=ZE D;have w1:IntKind.i64.wrap (cy+n)=cy+n:=aG;refine ay [_] func259 rfl ?_;unfold O_;by_cases c1:0<=a
 .simp[c1];refine cm hS ?_;by_cases c2:a<D.kept.length
  .by_cases c3:a<cy
   .simp[c2,c3,results259]
   .simp[c2,c3,w1,results259]
  .simp[c2,results259]
 .simp[c1,results259]
end Go.Av
namespace Go.aL
end Go.aL
namespace Go.Av
open Go.Proofs Go.Proofs.Tryz Go.aL
def M3(L:List dY):(L.map TV).flatMap fM=L.flatMap af:=by
 induction L with
 |nil=>rfl
 |cons x L ih=>rw[dB,cU,cU,ih];show fM (TV x)++_=_;rw[show fM (TV x)=(af x).flatMap fM from by rw[j7];simp,j7]
def K7(nx:Nat)(b:aF)(hb:b.length<=1000000000):bN 104 [.p (cK b)] ⟨[],[],nx⟩ (.view nx 0 b.length 1 none) ⟨[(nx,gE b)],[],nx+1⟩:=by
 have h:=Ej nx (af b) (cJ b) (j8 b) (by simp[af];omega);rw[j7]at h;have e:(af b).length=b.length:=by simp[af]
 rw[e]at h;exact h
end Go.Av
namespace Go.aL
def Gr(size cy n:Int):Int:=if n<5\/cy<0\/size<n\/size-n<cy then 2 else 0
end Go.aL
namespace Go.Av
open Go.Proofs Go.Proofs.Tryz Go.aL
def Jk(D:bt)(hd:D.kept.length<=65536)(cy n:Int):bN 161 [.obj 0 0,.p (.int cy),.p (.int n)] ⟨[(0,Gf 3 D)],[],4⟩ (.p (.int (Gr D.kept.length cy n))) ⟨[(0,Gf 3 D)],[],4⟩:=by
 have hS:=La D;unfold Gr;refine aC [_] func161 rfl ?_;by_cases c1:n<5
 .simp[c1,results161];exact⟨[],H⟩
 by_cases c2:cy<0
 .simp[c1,c2,results161];exact⟨[],H⟩
 simp[c1,c2];refine oM hS rfl ?_;by_cases c3:(D.kept.length:Int)<n
 .simp[c3,results161];exact⟨[],H⟩
 simp[c3];refine oM hS rfl ?_;have w1:IntKind.i64.wrap ((D.kept.length:Int)-n)=(D.kept.length:Int)-n:=aG;by_cases c4:(D.kept.length:Int)-n<cy
 .simp[c4,w1,results161];exact⟨[],H⟩
 .simp[c4,w1,results161];exact⟨[],H⟩
def sV(D:bt)(b:Nat)(hD:fJ b D)(cy n a:Int)(hf:0<=cy/\cy<=1000000)(ha:-1000000000<=a/\a<=1000000000)(l:List dY)(hl:l.length<=1000000000)(hb:b+l.length<=1000000000000):bN 181 [.agg false [.obj 0 0,.p (.int cy),.p (.int n)],.p (.int a),.p (.sl (l.map cK))] ⟨eG 3 D,dN 3,4⟩ (.p (.int (D.write (cy+a) l).2)) ⟨eG 4 (D.write (cy+a) l).1,dN 4,5⟩:=by
 have w1:IntKind.i64.wrap (cy+a)=cy+a:=aG;refine aq [_] [3] [] [] func181 rfl ?_;simp[w1];refine wu [0,1,2,3] (tL D b hD (cy+a) O l hl hb) ?_;simp[results181,ak];exact⟨[(4,5)],H⟩
end Go.Av
namespace Go.aL
def fJ.write{b:Nat}{D:bt}(h:fJ b D)(a:Int)(l:List dY):fJ (b+l.length) (D.write a l).1:=by
 unfold bt.write;split
 .rename_i hc;split
  .have hh:=h.next;have ht:0<=a/\a<=D.kept.length/\(0:Int)<=(l.length:Int)/\(l.length:Int)<=D.kept.length-a:=by
    have:=hc.1;unfold bt.there at this;simp at this;omega
   have hk:D.next.1.kept.length=D.kept.length:=by unfold bt.next;split<;>rfl
   exact hh.lay a.toNat l (λs hs=>by have:=List.all_eq_true.1 hc.2 s hs;simpa using this) (by rw[hk];omega)
  .exact h.next.up O
 .exact h.up O
def fJ.read{b:Nat}{D:bt}(h:fJ b D)(a n:Int):fJ b (D.read a n).1:=by
 unfold bt.read;split
 .split
  .exact h.next
  .exact h.next
 .exact h
def fJ.flush{b:Nat}{D:bt}(h:fJ b D):fJ b D.flush.1:=by
 unfold bt.flush;split
 .exact h.next.settle.up O
 .exact h.next
abbrev wB:=Int×List UInt8
structure Jr where
 cy:Int
 n:Int
 RU:Mk
 next:Int
 at':Int
 base:Int
 wr:Bool
 di:List wB
 cnt:Int
def ko:List wB->bt->bt×Int
 |[],D=>(D,0)
 |p::l,D=>if(D.write p.1 [p.2]).2=0 then ko l (D.write p.1 [p.2]).1 else D.write p.1 [p.2]
theorem fJ.home{b:Nat}:∀(l:List wB) {D:bt},fJ b D->fJ (b+l.length) (ko l D).1
 |[],_,h=>h
 |p::l,D,h=>by
  unfold ko;have hw:=h.write p.1 [p.2];split
  .exact(fJ.home l hw).up (by simp;omega)
  .exact hw.up H
def Jr.oX(J:Jr):Mk:=⟨IntKind.i64.wrap (J.RU.number+1),J.next,J.at'⟩
def Jr.tell(J:Jr)(D:bt):bt×Int:=D.write (J.cy+J.oX.number%2) [fW J.oX]
def Jr.settled(J:Jr):Jr:={J with RU:=if 0<J.cnt then J.oX else J.RU,base:=J.at',wr:=false,di:=[],cnt:=0}
end Go.aL
namespace Go.Av
open Go.Proofs Go.Proofs.Tryz Go.aL
@[reducible]def iB(d r:Nat)(J:Jr):Ob:=⟨268,12,[.obj d 0,.p (.int J.cy),.p (.int J.n),.p (.int J.RU.number),.p (.int J.RU.first),.p (.int J.RU.at'),.p (.int J.next),.p (.int J.at'),.p (.int J.base),.p (.bool J.wr),.own r (J.di.map iL),.p (.int J.cnt)]⟩
structure J_(J:Jr):Prop where
 cy:0<=J.cy/\J.cy<=1000000
 n:5<=J.n/\J.n<=1000000
 di:J.di.length<=1000000000
 at':0<=J.at'/\J.at'<=100000000
 base:0<=J.base/\J.base<=100000000
def Yg(D:bt)(b:Nat)(hD:fJ b D)(J:Jr)(hJ:J_ J)(hb:b<=100000000000)(ho:∀p∈J.di,-9223372036854775808<=p.1/\p.1<=9223372036854775807):bN 165 [.obj 4 0] ⟨(4,iB 0 5 J)::eG 3 D,(5,364,2)::dN 3,6⟩ (.p (.int (ko J.di D).2)) ⟨(4,iB 0 5 J)::eG 6 (ko J.di D).1,(5,364,2)::dN 6,7⟩:=by
 have xS:=hJ.di;refine aq [_] [4] [(4,[(4,.r 1),(6,.r 2),(8,.r 2),(10,.w [1,2])])] [(1,4),(2,7)] func165 rfl ?_;simp;refine aS (λ(kD:Nat×bt)=>kD.1<=J.di.length/\fJ (b+kD.1) kD.2/\ko (J.di.drop kD.1) kD.2=ko J.di D) (λkD=>[(0,.obj 4 0),(9,.own 5 (J.di.map iL)),(10,.p (.int J.di.length)),(11,.p (.int kD.1))]) (λkD=>⟨(4,iB 0 5 J)::eG 6 kD.2,(5,364,2)::dN 6,7⟩) (λkD=>J.di.length-kD.1) (0,D) ⟨H,hD,H⟩ _ (AS.le_refl _ _) (aE [(6,3)] (by simp[ak])) ?_;rintro⟨k,E⟩ ⟨hk,hE,hh⟩;simp only at hk hE hh;by_cases ck:k<J.di.length
 .have gp:(J.di.map iL)[k]?=some (iL J.di[k]):=by rw[sO,n_ ck];rfl
  have hpk:=ho _ (bB ck);generalize hp:J.di[k]=p at gp hpk;have DU:J.di.drop k=p::J.di.drop (k+1):=by rw[eK ck,hp]
  rw[DU]at hh;have wk:=ju k;have hW:=tL E (b+k) hE p.1 hpk [p.2] H (by simp;omega);simp[ck,iB,hp];refine wu [0,1,2,6] hW ?_;by_cases c2:(E.write p.1 [p.2]).2=0
  .have hh2:ko (J.di.drop (k+1)) (E.write p.1 [p.2]).1=ko J.di D:=by rw[<-hh,ko,ai c2]
   have o8:=hE.write p.1 [p.2];simp[c2,wk,ak];exact⟨k+1,_,⟨O,o8,hh2⟩,O,aE [(6,8)] (by simp[ak])⟩
  .have eY:((E.write p.1 [p.2]).2 !=0)=true:=U c2;rw[<-hh,ko,ah c2];simp[eY,ak,results165];exact⟨[(6,8)],H⟩
 .obtain rfl:k=J.di.length:=O;rw[sM]at hh;rw[<-hh];simp[ko,results165];exact⟨[],by simp[ak]⟩
def Yh(D:bt)(b:Nat)(hD:fJ b D)(J:Jr)(hJ:J_ J)(hb:b<=100000000000):bN 167 [.obj 4 0] ⟨(4,iB 0 5 J)::eG 3 D,(5,364,2)::dN 3,6⟩ (.p (.int (J.tell D).2)) ⟨(4,iB 0 5 J)::eG 6 (J.tell D).1,(5,364,2)::dN 6,7⟩:=by
 have hf:=hJ.cy;have h2:0<=J.oX.number%2/\J.oX.number%2<2:=O;have hS:=Ep J.oX;have hW:=sV D b hD J.cy J.n (J.oX.number%2) hf O [fW J.oX] H (by simp;omega);refine aq [_] [4] [(1,[(4,.r 1),(9,.r 1),(13,.r 1),(15,.w [1]),(16,.s 2 [1])]),(2,[(3,.r 1),(5,.r 2),(7,.r 2),(10,.w [1,2])])] [(1,4),(2,6)] func167 rfl ?_;rw[show J.tell D=D.write (J.cy+J.oX.number%2) [fW J.oX]from rfl];simp[iB];refine aZ hS ?_;simp[akp];refine aD [0,1,2,3] hW H (by simp[Jr.oX]) (by simp[aA,ak]) (by simp[aA]) ?_;simp[results167,ak];exact⟨[(6,7)],H⟩
def BS(J:Jr):bN 168 [.obj 4 0] ⟨[(4,iB 0 5 J)],[(5,364,2)],6⟩ (.agg true []) ⟨[(4,iB 0 6 J.settled)],[(6,364,2)],7⟩:=by
 have key:bN 168 [.obj 4 0] ⟨[(4,iB 0 5 J)],[(5,364,2)],6⟩ (.agg true []) ⟨[(4,{iB 0 6 J.settled with xs:=[.obj 0 0,.p (.int J.cy),.p (.int J.n),.p (.int J.settled.RU.number),.p (.int J.settled.RU.first),.p (.int J.settled.RU.at'),.p (.int J.next),.p (.int J.at'),.p (.int J.at'),.p (.bool false),.p .nil,.p (.int 0)]})],[],6⟩:=by
  refine aq [] [4] [(1,[(5,.r 1),(10,.r 1),(14,.r 1),(18,.s 1 [])]),(2,[(7,.r 1),(10,.s 1 []),(13,.s 1 []),(16,.s 1 []),(19,.s 1 [])])] [(1,4)] func168 rfl ?_;by_cases c:0<J.cnt
  .simp[iB,c];exact⟨[],by simp[Jr.settled,c,Jr.oX]⟩
  .simp[iB,c];exact⟨[],by simp[Jr.settled,c]⟩
 have h2:=BH (id:=4) (j:=10) 364 2 [] key rfl (.inr ⟨rfl,rfl⟩);exact uW h2 _ (by simp[aA,Tb.aY,Tb.cC,del,Jr.settled]) (by simp[aA,Tb.aY,Tb.cC]) H (by simp[Tb.aY,Tb.cC])
end Go.Av
