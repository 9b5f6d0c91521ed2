/- TiersAgain, part 6: an abstract interpreter over any program's form, with its proof of soundness; no condition. -/
import Derived.Test.YtgkdpbambfgahaaGreatDoorWae
set_option linter.all false
set_option maxRecDepth 100000
set_option maxHeartbeats 64000000
namespace Go.Av
open Go.RowKit
variable{st:AS}{x y:AV}{a:Act}{i:Nat}{sl sl':Nat->AV}{o:Oper}{tb a_:Tb}{w:World}
inductive Cls where
 |q
 |r (l:Nat)
 |s (l:Nat) (keep:List Nat)
 |f (ls:List Nat)
 |w (keep:List Nat)
variable{c:Cls}
inductive OT where
 |lf
 |br (i:Nat) (sub QB:OT)
 |one (i:Nat) (sub:OT)
structure Cx where
 md:List Nat
 cls:List (Nat×List (Nat×Cls))
 lab:List (Nat×Nat)
 iM:Nat
 ot:List (Nat×OT)
variable{cx:Cx}
def Cx.lb(cx:Cx)(l:Nat):Nat:=(lk l cx.lab).getD 0
def Cx.xE(cx:Cx)(d:Option Tmp):Bool:=match d with|some d=>cx.md.contains d|none=>false
def iu(m:List (Nat×Cls))(i:Nat):Cls:=(lk i m).getD .q
structure Fr where
 w0:World
 M0:Mem
 F:Nat->Prop
 g0:G
 n:Nat
 ds:List Deferred
def jK(fr:Fr)(st:AS)(a:Act)(w:World):Prop:=∃g,fr.g0.le g/\bf fr.w0 fr.M0 fr.F st.tb g w/\Po st.sl g a/\a.tmps.size=fr.n/\a.defers=fr.ds
def apL:AV->Option Bool
 | .p (.sc (.bool b))=>some b
 |_=>none
def vF(want:Bool):AV->Option Bool
 | .p (.sc (.bool b))=>some (b==want)
 | .agg true []=>some false
 |_=>none
def Wp:AV:= .agg true []
def abl{g:G}:bJ g undef Wp:= .sE .nil
def JL{want:Bool}{b:Bool}(h:vF want x=some b):(∃c,x= .p (.sc (.bool c))/\b=(c==want))\/x=Wp/\b=false:=by
 unfold vF at h;split at h
 .grind
 .injection h with h;exact .inr ⟨rfl,h.symm⟩
 grind
def ke(ops:Array Oper)(sl:Nat->AV)(o:Oper):Option Bool:=match o.guard with
 |none=>some true
 |some (j,want)=>match(ops[j]?).bind (·.dst)with
  |some d=>vF want (sl d)
  |none=>none
def oY(n:Nat)(o:Oper):Bool:=match o.dst with|some d=>decide (d<n)|none=>true
section
variable{P:Program}{fr:Fr}{ops:Array Oper}
def Po.put{sl:Nat->AV}{g g':G}{a:Act}{o:Oper}{v:Value}{x:AV}{n:Nat}(h:Po sl g a)(hg:g.le g')(hn:a.tmps.size=n)(hd:oY n o=true)(hx:bJ g' v x):Po (h_ sl o.dst x) g' (a.put o.dst v):=by
 intro t;unfold oY at hd;cases ho:o.dst with
 |none=>simpa[h_,Act.put]using(h t).mono hg
 |some d=>
  rw[ho]at hd;simp only[eZ]at hd;simp only[h_,Act.put,AJ];by_cases e:t=d
  .simp_all
  .rw[ah e];have:=(h t).mono hg;simp only[yB]at this⊢
   grind
theorem CU(a:Act)(d:Option Tmp)(v:Value):(a.put d v).tmps.size=a.tmps.size:=by cases d<;>simp[Act.put]
theorem GM(a:Act)(d:Option Tmp)(v:Value):(a.put d v).defers=a.defers:=by cases d<;>rfl
theorem nY{g:G}{b:Bool}(h:Po sl g a)(hw:ke ops sl o=some b):Region.wanted o (yielded ops a.tmps)=b:=by
 unfold ke at hw;unfold Region.wanted;cases hg:o.guard with
 |none=>grind
 |some jw=>
  obtain⟨j,want⟩:=jw;rw[hg]at hw;simp only at hw⊢;cases hd:(ops[j]?).bind (·.dst)with
  |none=>grind
  |some d=>
   rw[hd]at hw;simp only at hw;have JG:=JL hw;have nE:∀v,a.tmps.getD d undef=v->v≠undef->a.tmps[d]?=some v:=λv this hne=>by
    rw[yB]at this
    grind
   have:=h d;rcases JG with⟨c,hx,rfl⟩|⟨hx,rfl⟩
   .grind [bU,yielded,undef]
   .rw[hx]at this;have hv:a.tmps.getD d undef= .tuple #[]:=by
     generalize a.tmps.getD d undef=v at this;cases this with
     |sE hs=>cases hs;rfl
    have hy:yielded ops a.tmps j=none:=by
     unfold yielded;rw[hd];simp only[Option.bind_some];rw[yB]at hv
     grind
    grind
def Dd(h:jK fr st a w)(hd:oY fr.n o=true):jK fr (st.put o.dst Wp) (a.put o.dst undef) w:=by
 obtain⟨g,h0,h1,h2,h3,h4⟩:=h;exact⟨g,h0,h1,h2.put (G.le_refl g) h3 hd abl,by grind [CU],by grind [GM]⟩
def Dc{K:Act->World->Prop}{Q:Exit->Act->World->Prop}(h:jK fr st a w)(hd:oY fr.n o=true)(hy:eV P st o x a_)(hK:∀a' w',jK fr ⟨h_ st.sl o.dst x,a_⟩ a' w'->K a' w'):o.wp P a w K Q:=by
 obtain⟨g,h0,h1,h2,h3,h4⟩:=h;exact hy fr.w0 fr.M0 fr.F g a w h1 (λt _=>h2 t) K Q λv w' g' hM hw' hv=>hK _ _ ⟨g',h0.trans hM,hw',h2.put hM h3 hd hv,by grind [CU],by grind [GM]⟩
def D3(P:Program)(cx:Cx)(ops:Array Oper)(K:AS->Prop):List Oper->AS->Prop
 |[],st=>K st
 |o::rest,st=>match ke ops st.sl o with
  |some true=>mX P (cx.xE o.dst) o.op (bT st.sl) st.tb λx a_=>D3 P cx ops K rest ⟨h_ st.sl o.dst x,a_⟩
  |some false=>D3 P cx ops K rest (st.put o.dst Wp)
  |none=>False
theorem sW{cx:Cx}{K:AS->Prop}{Q:Exit->Act->World->Prop}(hQ:∀st a w,K st->jK fr st a w->Q .normal a w):∀(l:List Oper) (st:AS),l.all (oY fr.n)=true->D3 P cx ops K l st->∀a w,jK fr st a w->wpList P ops Q l a w
 |[],st,_,h,a,w,hs=>hQ st a w h hs
 |o::l,st,hd,h,a,w,hs=>by
  simp only[yE,bG]at hd;unfold D3 at h;have hsS:=hs;obtain⟨g,_,_,h2,_,_⟩:=hsS;split at h
  .rename_i hw;have hw:=nY h2 hw;unfold wpList;rw[ai hw];obtain⟨x,a_,hx,hy⟩:=A2 h;exact .inl (Dc hs hd.1 hy λa' w' hs'=>sW hQ l _ hd.2 hx a' w' hs')
  .rename_i hw;have hw:=nY h2 hw;unfold wpList;rw[ah (by grind)];exact sW hQ l _ hd.2 h _ _ (Dd hs hd.1)
  grind
def keeps(cx:Cx)(keep:List Nat)(tb a_:Tb):Prop:=∀l∈keep,lk (cx.lb l) a_.bx=lk (cx.lb l) tb.bx
def alV(cx:Cx)(ls:List Nat)(t u:Tb):Prop:=∀i,i∉ls.map cx.lb->lk i t.bx=lk i u.bx
structure Tb.eqv(t u:Tb):Prop where
 rw:t.rw=u.rw
 nx:t.nx=u.nx
 bx:∀i,lk i t.bx=lk i u.bx
def Tb.fI(t:Tb):t.eqv t:=⟨rfl,rfl,λ_=>rfl⟩
def Tb.eqv.symm{t u:Tb}(h:t.eqv u):u.eqv t:=⟨h.rw.symm,h.nx.symm,λi=>(h.bx i).symm⟩
def Tb.eqv.trans{t u v:Tb}(h:t.eqv u)(k:u.eqv v):t.eqv v:=⟨h.rw.trans k.rw,h.nx.trans k.nx,λi=>(h.bx i).trans (k.bx i)⟩
def bf.eqv{w0:World}{M0:Mem}{F:Nat->Prop}{t u:Tb}{g:G}{w:World}(h:bf w0 M0 F t g w)(e:t.eqv u):bf w0 M0 F u g w:=h.sub (λi o h=>by rw[e.bx i];omega) (λi r h=>by rw[e.rw];omega) (qI e.nx)
def eV.eqv{sl:Nat->AV}{t u t' u':Tb}{o:Oper}{x:AV}(h:eV P ⟨sl,t⟩ o x t')(e:t.eqv u)(e':t'.eqv u'):eV P ⟨sl,u⟩ o x u':=λw0 M0 F g a w hw ho K Q hK=>
 h w0 M0 F g a w (hw.eqv e.symm) ho K Q λv w' g' h1 h2 h3=>hK v w' g' h1 (h2.eqv e') h3
def ni(t:Tb)(i j:Nat)(ob:Ob):lk i (t.aY j ob).bx=if i=j then some ob else lk i t.bx:=by
 grind [Tb.aY,bP,cQ]
def Rh{t u:Tb}(h:t.eqv u)(i:Nat)(ob:Ob):(t.aY i ob).eqv (u.aY i ob):=⟨h.rw,h.nx,λj=>by rw[ni,ni,h.bx]⟩
def Yk(P:Program)(cx:Cx)(sl:Nat->AV)(tb:Tb)(o:Oper)(x:AV)(a_:Tb):Cls->Prop
 | .q=>tb.eqv a_/\dy P sl o x
 | .r l=>tb.eqv a_/\∃ob,lk (cx.lb l) tb.bx=some ob/\∀t:Tb,lk (cx.lb l) t.bx=some ob->eV P ⟨sl,t⟩ o x t
 | .s l keep=>∃ob lG,lk (cx.lb l) tb.bx=some ob/\(tb.aY (cx.lb l) lG).eqv a_/\keeps cx keep tb a_/\∀t:Tb,lk (cx.lb l) t.bx=some ob->eV P ⟨sl,t⟩ o x (t.aY (cx.lb l) lG)
 | .f ls=>keeps cx ls tb a_/\∀t t':Tb,t.rw=tb.rw->t.nx=tb.nx->alV cx ls t tb->t'.rw=a_.rw->t'.nx=a_.nx->alV cx ls t' a_->keeps cx ls t t'->eV P ⟨sl,t⟩ o x t'
 | .w keep=>keeps cx keep tb a_/\eV P ⟨sl,tb⟩ o x a_
def conf:Cls->Cls->Bool
 | .q,_|_,.q=>false
 | .r _,.r _=>false
 | .r l,.s _ k| .r l,.w k| .s _ k,.r l| .w k,.r l=>!k.contains l
 | .r l,.f k| .f k,.r l| .s l _,.f k| .f k,.s l _=>!k.contains l
 |_,_=>true
def Yk.src{u:Tb}(h:Yk P cx sl tb o x a_ c)(e:tb.eqv u):Yk P cx sl u o x a_ c:=by
 cases c with
 |q=>exact⟨e.symm.trans h.1,h.2⟩
 |r l=>obtain⟨h0,ob,h1,h2⟩:=h;exact⟨e.symm.trans h0,ob,by rw[<-e.bx];omega,h2⟩
 |s l k=>
  obtain⟨ob,lG,h1,h2,h3,h4⟩:=h;exact⟨ob,lG,by rw[<-e.bx];omega,(Rh e.symm _ _).trans h2,λl hl=>by rw[<-e.bx];exact h3 l hl,h4⟩
 |f ls=>
  refine⟨λl hl=>by rw[<-e.bx];exact h.1 l hl,λt t' h1 h2 h3 h4 h5 h6 h7=>h.2 t t' (h1.trans e.rw.symm) (h2.trans e.nx.symm) (λi hi=>(h3 i hi).trans (e.bx i).symm) h4 h5 h6 h7⟩
 |w k=>exact⟨λl hl=>by rw[<-e.bx];exact h.1 l hl,h.2.eqv e (Tb.fI _)⟩
def Yk.tgt{u':Tb}(h:Yk P cx sl tb o x a_ c)(e:a_.eqv u'):Yk P cx sl tb o x u' c:=by
 cases c with
 |q=>exact⟨h.1.trans e,h.2⟩
 |r l=>obtain⟨h0,ob,h1,h2⟩:=h;exact⟨h0.trans e,ob,h1,h2⟩
 |s l k=>
  obtain⟨ob,lG,h1,h2,h3,h4⟩:=h;exact⟨ob,lG,h1,h2.trans e,λl hl=>by rw[<-e.bx];exact h3 l hl,h4⟩
 |f ls=>
  refine⟨λl hl=>by rw[<-e.bx];exact h.1 l hl,λt t' h1 h2 h3 h4 h5 h6 h7=>h.2 t t' h1 h2 h3 (h4.trans e.rw.symm) (h5.trans e.nx.symm) (λi hi=>(h6 i hi).trans (e.bx i).symm) h7⟩
 |w k=>exact⟨λl hl=>by rw[<-e.bx];exact h.1 l hl,h.2.eqv (Tb.fI _) e⟩
def Yk.apM(h:Yk P cx sl tb o x a_ c):eV P ⟨sl,tb⟩ o x a_:=by
 cases c with
 |q=>obtain⟨e,h⟩:=h;exact(eV.ae9 (st:=⟨sl,tb⟩) h).eqv (Tb.fI _) e
 |r l=>obtain⟨e,ob,h1,h2⟩:=h;exact(h2 _ h1).eqv (Tb.fI _) e
 |s l k=>obtain⟨ob,lG,h1,h2,h3,h4⟩:=h;exact(h4 _ h1).eqv (Tb.fI _) h2
 |f ls=>exact h.2 tb a_ rfl rfl (λ_ _=>rfl) rfl rfl (λ_ _=>rfl) h.1
 |w k=>exact h.2
theorem Yk.far{cx:Cx}{sl sl':Nat->AV}{tb t1 t2:Tb}{o p:Oper}{x y:AV}{l:Nat}{keep ls:List Nat}(hl:l∈ls)(h:Yk P cx sl tb o x t1 (.s l keep))(k:Yk P cx sl' t1 p y t2 (.f ls)):∃t3,Yk P cx sl' tb p y t3 (.f ls)/\Yk P cx sl t3 o x t2 (.s l keep):=by
 obtain⟨ob,lG,h1,h2,h3,h4⟩:=h;have hk:keeps cx ls t1 t2:=k.1;have t1i:∀i,lk i t1.bx=if i=cx.lb l then some lG else lk i tb.bx:=λi=>by rw[<-h2.bx i,ni]
 refine⟨⟨(cx.lb l,ob)::del (cx.lb l) t2.bx,t2.rw,t2.nx⟩,⟨?_,?_⟩,ob,lG,by simp[bP],?_,?_,h4⟩
 .intro l' hl';show lk (cx.lb l') ((cx.lb l,ob)::del (cx.lb l) t2.bx)=_;rw[bP];split
  .grind
  .rename_i e;rw[cQ,ah e,hk l' hl',t1i,ah e]
 .intro t t' g1 g2 g3 g4 g5 g6 g7;refine k.2 t t' (g1.trans h2.rw) (g2.trans h2.nx) (λi hi=>?_) g4 g5 (λi hi=>?_) g7
  .rw[g3 i hi,t1i,ah]
   grind
  .rw[g6 i hi]
   grind [bP,cQ]
 .refine⟨rfl,rfl,λi=>?_⟩;rw[ni];show(if i=cx.lb l then some lG else lk i ((cx.lb l,ob)::del (cx.lb l) t2.bx))=_;split
  .rename_i e;rw[e,hk l hl,t1i,ai rfl]
  grind [bP,cQ]
 .intro l' hl';show _=lk (cx.lb l') ((cx.lb l,ob)::del (cx.lb l) t2.bx);rw[bP];split
  .rename_i e;have:=h3 l' hl';rw[t1i,ai e,e,h1]at this;rw[e,hk l hl,t1i,ai rfl];omega
  grind [cQ]
theorem Yk.apN{t1 t2:Tb}{p:Oper}{l:Nat}{keep ls:List Nat}(hl:l∈ls)(h:Yk P cx sl tb o x t1 (.f ls))(k:Yk P cx sl' t1 p y t2 (.s l keep)):∃t3,Yk P cx sl' tb p y t3 (.s l keep)/\Yk P cx sl t3 o x t2 (.f ls):=by
 obtain⟨ob,lG,h1,h2,h3,h4⟩:=k;have hk:keeps cx ls tb t1:=h.1;have t2i:∀i,lk i t2.bx=if i=cx.lb l then some lG else lk i t1.bx:=λi=>by rw[<-h2.bx i,ni]
 have hold:lk (cx.lb l) tb.bx=some ob:=by rw[<-hk l hl];omega
 refine⟨tb.aY (cx.lb l) lG,⟨ob,lG,hold,Tb.fI _,λl' hl'=>?_,h4⟩,λl' hl'=>?_,?_⟩
 .rw[ni];split
  .rename_i e;have:=h3 l' hl'
   grind
  .rfl
 .rw[t2i,ni];split
  .rfl
  .exact hk l' hl'
 .intro t t' g1 g2 g3 g4 g5 g6 g7;refine h.2 t t' g1 g2 (λi hi=>?_) (g4.trans h2.rw.symm) (g5.trans h2.nx.symm) (λi hi=>?_) g7
  .have hne:i≠cx.lb l:=λe=>hi (bE.2 ⟨l,hl,e.symm⟩);rw[g3 i hi,ni,ah hne]
  .have hne:i≠cx.lb l:=λe=>hi (bE.2 ⟨l,hl,e.symm⟩);rw[g6 i hi,t2i,ah hne]
def Yk.comm{t1 t2:Tb}{p:Oper}{d:Cls}(hc:conf c d=false)(h:Yk P cx sl tb o x t1 c)(k:Yk P cx sl' t1 p y t2 d):∃t3,Yk P cx sl' tb p y t3 d/\Yk P cx sl t3 o x t2 c:=by
 by_cases hq:d= .q
 .subst hq;obtain⟨e,k⟩:=k;exact⟨tb,⟨Tb.fI _,k⟩,h.tgt e⟩
 cases c with
 |q=>
  obtain⟨e,h⟩:=h;exact⟨t2,k.src e.symm,Tb.fI _,h⟩
 |r l=>
  obtain⟨e,ob,h1,h2⟩:=h;refine⟨t2,k.src e.symm,Tb.fI _,ob,?_,h2⟩;have jS:lk (cx.lb l) t1.bx=some ob:=by rw[<-e.bx];omega
  cases d with
  |q=>grind
  |r m=>rw[<-k.1.bx];omega
  |s m kp=>obtain⟨_,_,_,_,kk,_⟩:=k;rw[kk l (by grind [conf])];omega
  |f ls=>rw[k.1 l (by grind [conf])];omega
  |w kp=>rw[k.1 l (by grind [conf])];omega
 |s l kp=>
  cases d with
  |q=>grind
  |r m=>
   obtain⟨ek,ob2,k1,k2⟩:=k;refine⟨tb,⟨Tb.fI _,ob2,?_,k2⟩,h.tgt ek⟩;obtain⟨_,_,_,_,kk,_⟩:=h;rw[<-kk m (by grind [conf])];omega
  |s _ _=>simp[conf]at hc
  |f ls=>grind [Yk.far,conf]
  |w _=>simp[conf]at hc
 |f ls=>
  cases d with
  |q=>grind
  |r m=>
   obtain⟨ek,ob2,k1,k2⟩:=k;refine⟨tb,⟨Tb.fI _,ob2,?_,k2⟩,h.tgt ek⟩;rw[<-h.1 m (by grind [conf])];omega
  |s l kp=>grind [Yk.apN,conf]
  |f _=>simp[conf]at hc
  |w _=>simp[conf]at hc
 |w kp=>
  cases d with
  |q=>grind
  |r m=>
   obtain⟨ek,ob2,k1,k2⟩:=k;refine⟨tb,⟨Tb.fI _,ob2,?_,k2⟩,h.tgt ek⟩;rw[<-h.1 m (by grind [conf])];omega
  |s _ _=>simp[conf]at hc
  |f _=>simp[conf]at hc
  |w _=>simp[conf]at hc
def eV.congr(h:eV P ⟨sl,tb⟩ o x a_)(hs:∀t,Operand.tmp t∈o.op.operands->sl' t=sl t):eV P ⟨sl',tb⟩ o x a_:=λw0 M0 F g a w hw ho K Q hK=>h w0 M0 F g a w hw (λt ht=>by grind) K Q hK
def dy.congr(h:dy P sl o x)(hs:∀t,Operand.tmp t∈o.op.operands->sl' t=sl t):dy P sl' o x:=λw0 M0 F tb g a w hw ho K Q hK=>h w0 M0 F tb g a w hw (λt ht=>by grind) K Q hK
def Yk.congr{cx:Cx}{sl sl':Nat->AV}{tb a_:Tb}{o:Oper}{x:AV}{c:Cls}(h:Yk P cx sl tb o x a_ c)(hs:∀t,Operand.tmp t∈o.op.operands->sl' t=sl t):Yk P cx sl' tb o x a_ c:=by
 cases c with
 |q=>exact⟨h.1,h.2.congr hs⟩
 |r l=>obtain⟨e,ob,h1,h2⟩:=h;exact⟨e,ob,h1,λt e=>(h2 t e).congr hs⟩
 |s l k=>obtain⟨ob,lG,h1,h2,h3,h4⟩:=h;exact⟨ob,lG,h1,h2,h3,λt e=>(h4 t e).congr hs⟩
 |f ls=>exact⟨h.1,λt t' g1 g2 g3 g4 g5 g6 g7=>(h.2 t t' g1 g2 g3 g4 g5 g6 g7).congr hs⟩
 |w k=>exact⟨h.1,h.2.congr hs⟩
theorem Oy(sl:Nat->AV)(d:Option Tmp)(x:AV){t:Tmp}(h:d≠some t):h_ sl d x t=sl t:=by
 cases d with
 |none=>rfl
 |some e=>simp only[h_,AJ];grind
theorem Ri(sl:Nat->AV){x y:Option Tmp}(v u:AV)(h:∀d,x=some d->y≠some d):h_ (h_ sl x v) y u=h_ (h_ sl y u) x v:=by
 cases x with
 |none=>rfl
 |some d=>
  cases y with
  |none=>rfl
  |some e=>grind [h_,TN]
def JM{o':Oper}(hap:∀d,o'.dst=some d->d∉o.looksAt ops)(sl:Nat->AV)(y:AV):∀t,Operand.tmp t∈o.op.operands->h_ sl o'.dst y t=sl t:=λt ht=>
 Oy _ _ _ λhe=>hap t he (Bu _ (List.mem_filterMap.2 ⟨.tmp t,by grind,rfl⟩))
def Aj{d:Option Tmp}(hap:∀e,d=some e->e∉o.looksAt ops):ke ops (h_ sl d y) o=ke ops sl o:=by
 grind [ke,Oy,Oper.looksAt]
def oQ(P:Program)(cx:Cx)(ops:Array Oper)(c:Cls)(o:Oper)(x:AV)(sl:Nat->AV)(tb a_:Tb):Prop:=(ke ops sl o=some true/\Yk P cx sl tb o x a_ c)\/(ke ops sl o=some false/\x=Wp/\a_=tb)
def oQ.congr{cx:Cx}{c:Cls}{o o':Oper}{x y:AV}{sl:Nat->AV}{tb a_:Tb}(h:oQ P cx ops c o x sl tb a_)(hap:∀d,o'.dst=some d->d∉o.looksAt ops):oQ P cx ops c o x (h_ sl o'.dst y) tb a_:=by
 unfold oQ at*;rw[Aj hap];exact h.imp (λ⟨a,b⟩=>⟨a,b.congr (JM hap sl y)⟩) id
def oQ.abm{o':Oper}(h:oQ P cx ops c o x (h_ sl o'.dst y) tb a_)(hap:∀d,o'.dst=some d->d∉o.looksAt ops):oQ P cx ops c o x sl tb a_:=by
 unfold oQ at*;rw[Aj hap]at h;exact h.imp (λ⟨a,b⟩=>⟨a,b.congr λt ht=>(JM hap sl y t ht).symm⟩) id
def oQ.comm{cx:Cx}{c d:Cls}{o p:Oper}{x y:AV}{sl:Nat->AV}{tb t1 t2:Tb}(hc:conf c d=false)(hap:o.apart ops p=true)(h:oQ P cx ops c o x sl tb t1)(k:oQ P cx ops d p y (h_ sl o.dst x) t1 t2):∃t3,oQ P cx ops d p y sl tb t3/\oQ P cx ops c o x (h_ sl p.dst y) t3 t2:=by
 obtain⟨h1,h2,h3⟩:=Oper.apart_spec hap;have k':=k.abm h1;rcases h with⟨hw,hy⟩|⟨hw,rfl,rfl⟩
 .rcases k' with⟨kw,ky⟩|⟨kw,rfl,rfl⟩
  .obtain⟨t3,e1,e2⟩:=hy.comm hc ky;exact⟨t3,.inl ⟨kw,e1⟩,oQ.congr (.inl ⟨hw,e2⟩) h3⟩
  .exact⟨tb,.inr ⟨kw,rfl,rfl⟩,oQ.congr (.inl ⟨hw,hy⟩) h3⟩
 .exact⟨t2,k',oQ.congr (.inr ⟨hw,rfl,rfl⟩) h3⟩
def Wr(P:Program)(cx:Cx)(m:List (Nat×Cls))(ops:Array Oper)(i:Nat)(K:AS->Prop)(st:AS):Prop:=match ops[i]? with
 |none=>K st
 |some o=>∃x a_,oQ P cx ops (iu m i) o x st.sl st.tb a_/\K ⟨h_ st.sl o.dst x,a_⟩
def pG(P:Program)(cx:Cx)(m:List (Nat×Cls))(ops:Array Oper)(K:AS->Prop):Nat->Array Bool->AS->Prop
 |0,listed,st=>Region.ready .any ops listed=[]/\K st
 |fuel+1,listed,st=>
  (Region.ready .any ops listed=[]->K st)/\
  ∀i∈Region.ready .any ops listed,Wr P cx m ops i (pG P cx m ops K fuel (listed.setIfInBounds i true)) st
def JN{m:List (Nat×Cls)}{K:AS->Prop}{K':Act->World->Prop}{Q:Exit->Act->World->Prop}(hd:ops.all (oY fr.n)=true)(hs:jK fr st a w)(hK:∀st a w,K st->jK fr st a w->K' a w)(h:Wr P cx m ops i K st):wpOp P ops Q i K' a w:=by
 unfold Wr at h;unfold wpOp;cases ho:ops[i]? with
 |none=>grind
 |some o=>
  rw[ho]at h;simp only at h⊢;have hdo:oY fr.n o=true:=by
   grind
  have hsS:=hs;obtain⟨g,_,_,h2,_,_⟩:=hsS;obtain⟨x,a_,⟨hw,hy⟩|⟨hw,rfl,rfl⟩,hk⟩:=h
  .rw[ai (nY h2 hw)];exact .inl (Dc (st:=st) hs hdo hy.apM λa' w' hs'=>hK _ _ _ hk hs')
  .rw[ah (by grind [nY])];exact hK _ _ _ hk (Dd hs hdo)
theorem vH{cx:Cx}{m:List (Nat×Cls)}{K:AS->Prop}{Q:Exit->Act->World->Prop}(hd:ops.all (oY fr.n)=true)(hQ:∀st a w,K st->jK fr st a w->Q .normal a w):∀(fuel:Nat) (listed:Array Bool) (st:AS),pG P cx m ops K fuel listed st->∀a w,jK fr st a w->wpAny P .any ops Q fuel listed a w
 |0,_,_,h,a,w,hs=>⟨h.1,hQ _ _ _ h.2 hs⟩
 |fuel+1,_,_,h,a,w,hs=>⟨λh0=>hQ _ _ _ (h.1 h0) hs,λi hi=>JN hd hs (λst a w h' hs'=>vH hd hQ fuel _ st h' a w hs') (h.2 i hi)⟩
def dep(ops:Array Oper)(i:Nat):Nat->Nat->Bool
 |0,_=>false
 |f+1,j=>match ops[j]? with
  |some o=>o.after.any λe=>Region.binds .any e&&(e.on==i||dep ops i f e.on)
  |none=>false
def Down(ops:Array Oper)(listed:Array Bool):Prop:=∀j oj,ops[j]?=some oj->listed.getD j false=true->∀e∈oj.after,Region.binds .any e=true->listed.getD e.on false=true
theorem Du{listed:Array Bool}(hD:Down ops listed){i:Nat}:∀(f j:Nat),(∀oj,ops[j]?=some oj->∀e∈oj.after,Region.binds .any e=true->listed.getD e.on false=true)->dep ops i f j=true->listed.getD i false=true
 |0,_,_,h=>by simp[dep]at h
 |f+1,j,hj,h=>by
  unfold dep at h;split at h
  .rename_i o ho;obtain⟨e,he,h⟩:=Array.any_eq_true'.1 h;simp only[bG,vb,ri]at h;obtain⟨hb,h⟩:=h;have h1:=hj o ho e he hb;rcases h with h|h
   .grind
   .exact Du hD f e.on (λok hk=>hD e.on ok hk h1) h
  grind
def Down.set{listed:Array Bool}(hD:Down ops listed)(hi:i∈Region.ready .any ops listed):Down ops (listed.setIfInBounds i true):=by
 have up:∀k,listed.getD k false=true->(listed.setIfInBounds i true).getD k false=true:=λk hk=>by
  by_cases hik:i=k
  .subst hik;rcases iD i listed.size with h'|h'
   all_goals simp_all
  simp_all
 intro j oj hj hl e he hb;obtain⟨_,oi,hoi,hall⟩:=mem_ready.1 hi;by_cases hij:i=j
 .grind
 .rw[getD_set_ne false hij]at hl;exact up _ (hD j oj hj hl e he hb)
def xH{m:List (Nat×Cls)}{K:AS->Prop}{oi:Oper}(hi:ops[i]?=some oi)(N:Nat):∀(fuel:Nat) (listed:Array Bool) (st:AS) (a_:Tb),Down ops listed->(∀j oj,ops[j]?=some oj->j≠i->listed.getD j true=false->(∀e∈oj.after,Region.binds .any e=true->e.on≠i)->oi.apart ops oj=true)->(∀j oj,ops[j]?=some oj->j≠i->listed.getD j true=false->conf (iu m i) (iu m j)=true->dep ops i N j=true)->i∈Region.ready .any ops listed->oQ P cx ops (iu m i) oi x st.sl st.tb a_->pG P cx m ops K fuel (listed.setIfInBounds i true) ⟨h_ st.sl oi.dst x,a_⟩->pG P cx m ops K (fuel+1) listed st:=by
 have first:∀{st:AS} {a_:Tb} {K':AS->Prop},oQ P cx ops (iu m i) oi x st.sl st.tb a_->K' ⟨h_ st.sl oi.dst x,a_⟩->Wr P cx m ops i K' st:=λhy hk=>by
  grind [Wr]
 intro fuel
 induction fuel with
 |zero=>
  intro listed st a_ _ _ _ hr hy H1;refine⟨λh=>(by grind),λj hj=>?_⟩;by_cases hji:j=i
  .grind
  .have:=ready_mono hj hji;rw[H1.1]at this
   grind
 |succ fuel ih=>
  intro listed st a_ hD hfree alW hr hy H1;refine⟨λh=>(by grind),λj hj=>?_⟩;by_cases hji:j=i
  .grind
  .have h1:=H1.2 j (ready_mono hj hji);obtain⟨apO,oj,hoj,hall⟩:=mem_ready.1 hj;have arl:=(mem_ready.1 hr).1;have alX:listed.getD i false=true->False:=λh1=>by
    grind
   have hnot:∀e∈oj.after,Region.binds .any e=true->e.on≠i:=λe he hb heq=>alX (heq▸hall e he hb);have hcf:conf (iu m i) (iu m j)=false:=by
    grind [Du]
   unfold Wr at h1;rw[hoj]at h1;obtain⟨u,t2,hu,hk⟩:=h1;obtain⟨t3,e1,e2⟩:=oQ.comm hcf (hfree j oj hoj hji apO hnot) hy hu;unfold Wr;rw[hoj];refine⟨u,t3,e1,?_⟩;have lift:∀k,(listed.setIfInBounds j true).getD k true=false->listed.getD k true=false:=λk hun=>by
    by_cases hjk:j=k
    all_goals simp_all
   refine ih (listed.setIfInBounds j true) ⟨h_ st.sl oj.dst u,t3⟩ t2 (hD.set hj) (λk ok hk hki hun hno=>hfree k ok hk hki (lift k hun) hno) (λk ok hk hki hun hc=>alW k ok hk hki (lift k hun) hc) (ready_mono hr (Ne.symm hji)) e2 ?_
   grind [Oper.apart_spec,Ri,Array.setIfInBounds_comm]
end
end Go.Av
namespace Go.Av
open Go.RowKit
def V3(P:Program)(cx:Cx)(ls:List Nat)(gf:FuncId)(caps:List PC)(args:List AV)(tb:Tb)(k:AV->Tb->Prop):Prop:=∃ys ts r ts',toAll args ys/\dm P gf (ys++caps.map .p) ts r ts'/\aA tb.bx ts.bx/\aA tb.rw ts.rw/\ts.nx=tb.nx/\(∀l∈ls,lk (cx.lb l) ts.bx=none/\lk (cx.lb l) ts'.bx=none)/\k r (tb.merge ts ts')
def zn(P:Program)(cx:Cx)(ls:List Nat)(args:List AV)(tb:Tb)(k:AV->Tb->Prop):AV->Prop
 | .p (.fn (.func gf) caps)=>V3 P cx ls gf caps args tb k
 |_=>False
def V0(P:Program)(cx:Cx)(l:Nat)(t:TypeId)(tb:Tb)(k:AV->Tb->Prop)(y:AV):AV->Prop
 | .obj id off=>id=cx.lb l/\storeT P t tb k (.obj id off) y
 |_=>False
def Ji(P:Program)(cx:Cx)(l:Nat)(t:TypeId)(tb:Tb)(k:AV->Tb->Prop):AV->Prop
 | .obj id off=>id=cx.lb l/\loadT P t tb k (.obj id off)
 |_=>False
def Jh(cx:Cx)(keep:List Nat)(tb:Tb)(k:AV->Tb->Prop):AV->Tb->Prop:=λx a_=>keeps cx keep tb a_/\k x a_
def GZ(P:Program)(cx:Cx)(md:Bool)(op:Op)(e:Operand->AV)(tb:Tb)(k:AV->Tb->Prop):Cls->Prop
 | .q=>jq P op e λy=>k y tb
 | .r l=>match op with
  | .load t x=>Ji P cx l t tb k (e x)
  |_=>False
 | .s l keep=>match op with
  | .store t x y=>V0 P cx l t tb (Jh cx keep tb k) (e y) (e x)
  |_=>False
 | .f ls=>match op with
  | .call c=>(match c.callee with
   | .builtin .append=>c.args.size=2/\c.argTypes.size=2/\Ap P (c.argTypes.getD 1 0) tb k (e (c.args.getD 0 (.tmp 0))) (e (c.args.getD 1 (.tmp 0))).nm (dF P (c.argTypes.getD 0 0))
   | .value f=>zn P cx ls (c.args.toList.map e) tb k (e f).nm
   |_=>False)
  |_=>False
 | .w keep=>mX P md op e tb (Jh cx keep tb k)
def Hr(P:Program)(cx:Cx)(m:List (Nat×Cls))(ops:Array Oper)(K:AS->Prop):Nat->List Oper->AS->Prop
 |_,[],st=>K st
 |i,o::rest,st=>match ke ops st.sl o with
  |some true=>GZ P cx (cx.xE o.dst) o.op (bT st.sl) st.tb (λx a_=>Hr P cx m ops K (i+1) rest ⟨h_ st.sl o.dst x,a_⟩) (iu m i)
  |some false=>Hr P cx m ops K (i+1) rest (st.put o.dst Wp)
  |none=>False
def zx(m:List (Nat×Cls))(ops:Array Oper)(n:Nat):Bool:=(List.range n).all λi=>(List.range n).all λj=>!(decide (i<j)&&conf (iu m i) (iu m j))||dep ops i n j
section
variable{P:Program}{fr:Fr}{ops:Array Oper}
def abn{c:Call}{sl:Nat->AV}{tb:Tb}{o:Oper}{k:AV->Tb->Prop}(ho:o.op= .call c)(hc:c.callee= .builtin .append)(ha:c.args.size=2)(ht:c.argTypes.size=2)(h:Ap P (c.argTypes.getD 1 0) tb k (bT sl (c.args.getD 0 (.tmp 0))) (bT sl (c.args.getD 1 (.tmp 0))).nm (dF P (c.argTypes.getD 0 0))):∃x fX e sz,k x (rQ tb fX e sz)/\∀bx,eV P ⟨sl,⟨bx,tb.rw,tb.nx⟩⟩ o x (rQ ⟨bx,tb.rw,tb.nx⟩ fX e sz):=by
 have ea:=zF ha (.tmp 0);have et:=zF ht 0;generalize c.args.getD 0 (.tmp 0)=x at*;generalize c.args.getD 1 (.tmp 0)=y at*;generalize c.argTypes.getD 0 0=t at*;generalize c.argTypes.getD 1 0=u at*;unfold Ap at h;split at h
 .rename_i e sz dQ hel;cases hX:JH tb.rw e sz (bT sl x)with
  |none=>rw[hX]at h;exact h.elim
  |some q=>
   obtain⟨fX,xs⟩:=q;rw[hX]at h;have hR:=E1 hX;unfold Rb at h;simp only at h;split at h
   .rename_i s hy;obtain⟨rfl,h1,h2,h3,h4,h⟩:=h;exact⟨_,fX,e,1,h,λbx=>EC (st:=⟨sl,⟨bx,tb.rw,tb.nx⟩⟩) ho hc ea et hel h1 h2 h3 h4 hy (by cases fX<;>exact hR)⟩
   .rename_i ys hy;obtain⟨h1,h2,h3,h4,h5,h6,h⟩:=h;exact⟨_,fX,e,sz,h,λbx=>xq (st:=⟨sl,⟨bx,tb.rw,tb.nx⟩⟩) ho hc ea et hel h1 h2 h3 h4 h5 h6 (.inl hy) (by cases fX<;>exact hR)⟩
   .rename_i hy;obtain⟨h1,h2,h3,h4,h5,h6,h⟩:=h;exact⟨_,fX,e,sz,h,λbx=>xq (st:=⟨sl,⟨bx,tb.rw,tb.nx⟩⟩) ho hc ea et hel h1 h2 h3 h4 h5 h6 (.inr ⟨rfl,hy⟩) (by cases fX<;>exact hR)⟩
   grind
 grind
theorem W_{α:Type}{i:Nat}:∀(a b:List (Nat×α)),lk i (a++b)=match lk i a with|some o=>some o|none=>lk i b
 |[],b=>rfl
 |(j,p)::a,b=>by
  simp only[kP,lk];split
  .rfl
  .exact W_ a b
theorem OD{α:Type}{i:Nat}:∀(s l:List (Nat×α)),lk i (cX s l)=match lk i s with|some _=>none|none=>lk i l
 |[],l=>rfl
 |(j,p)::s,l=>by
  simp only[cX,cQ,lk];split
  .rfl
  .exact OD s l
theorem xN{tb ts ts':Tb}{i:Nat}:lk i (tb.merge ts ts').bx=match lk i ts'.bx with|some o=>some o|none=>(match lk i ts.bx with|some _=>none|none=>lk i tb.bx):=by
 grind [Tb.merge,W_,OD]
theorem E7{α:Type}{bx cx:List (Nat×α)}:∀(l:List (Nat×α)),aA bx l->(∀i o,lk i l=some o->lk i bx=some o->lk i cx=some o)->(∀p∈l,lk p.1 l=some p.2\/True)->(∀p∈l,lk p.1 bx=lk p.1 cx)->aA cx l
 |[],_,_,_,_=>trivial
 |(i,o)::l,h,h2,h3,h4=>⟨by have:=h4 (i,o) H;simp only at this;rw[<-this];exact h.1,E7 l h.2 (λj p e f=>by
  by_cases hij:∃q∈l,q.1=j
  .grind
  .exfalso;have:∀(l:List (Nat×α)),(¬∃q∈l,q.1=j)->lk j l=none:=by
    intro l
    induction l with
    |nil=>intro _;rfl
    |cons q l ih=>grind [lk]
   grind) (λ_ _=> .inr trivial) (λp hp=>h4 p (by grind))⟩
theorem abo{cx:Cx}{md:Bool}{sl:Nat->AV}{tb:Tb}{o:Oper}{k:AV->Tb->Prop}:∀(c:Cls),GZ P cx md o.op (bT sl) tb k c->∃x a_,k x a_/\Yk P cx sl tb o x a_ c
 | .q,h=>by obtain⟨x,h1,h2⟩:=GO h;exact⟨x,tb,h1,Tb.fI _,h2⟩
 | .r l,h=>by
  unfold GZ at h;simp only at h;split at h
  .rename_i t x ho;unfold Ji at h;split at h
   .rename_i id off hx;obtain⟨hid,h⟩:=h;unfold loadT at h;simp only at h;split at h
    .rename_i ob ag s hl ha hs;split at h
     .rename_i y hp;exact⟨y,tb,h,Tb.fI _,ob,by grind,λt' hl'=>U3 (st:=⟨sl,t'⟩) ho hx (by grind) ha hs hp⟩
     grind
    grind
   grind
  grind
 | .s l keep,h=>by
  unfold GZ at h;simp only at h;split at h
  .rename_i t x y ho;unfold V0 at h;split at h
   .rename_i id off hx;obtain⟨hid,h⟩:=h;unfold storeT at h;split at h
    .rename_i id2 off2 zs he hy;injection he with vN FZ;subst vN;subst FZ;split at h
     .rename_i ob hl;obtain⟨h1,h2,h3,h4⟩:=h;subst hid;exact⟨.any,_,h4,ob,_,hl,Tb.fI _,h3,λt' hl'=>NK (st:=⟨sl,t'⟩) ho hx hl' hy h1 h2⟩
     grind
    grind
   grind
  grind
 | .f ls,h=>by
  unfold GZ at h;simp only at h;split at h
  .rename_i c ho;split at h
   .rename_i hc;obtain⟨ha,ht,h⟩:=h;obtain⟨x,fX,e,sz,h1,h2⟩:=abn ho hc ha ht h;refine⟨x,_,h1,λl _=>rfl,λt t' g1 g2 g3 g4 g5 g6 g7=>?_⟩;refine(h2 t.bx).eqv ⟨g1.symm,g2.symm,λ_=>rfl⟩ ⟨?_,?_,λi=>?_⟩
    .rw[g4];rfl
    .rw[g5];rfl
    .show lk i t.bx=lk i t'.bx;by_cases hi:i∈ls.map cx.lb
     .obtain⟨l,hl,rfl⟩:=bE.1 hi;exact(g7 l hl).symm
     .rw[g6 i hi,g3 i hi];rfl
   .rename_i f hc;unfold zn at h;split at h
    .rename_i gf caps hf;obtain⟨ys,ts,r,ts',h1,h2,h3,h4,h5,h6,h7⟩:=h;refine⟨r,_,h7,λl hl=>?_,λt t' g1 g2 g3 g4 g5 g6 g7=>?_⟩
     .grind [xN]
     .have hnot:∀p∈ts.bx,p.1∉ls.map cx.lb:=λp hp hm=>by
       obtain⟨l,hl,e⟩:=bE.1 hm;have:=(h6 l hl).1;rw[e]at this;have key:∀(l:List (Nat×Ob)),p∈l->lk p.1 l≠none:=by
        intro l
        induction l with
        |nil=>simp
        |cons q l ih=>
         grind [lk]
       grind
      have hsub:aA t.bx ts.bx:=E7 ts.bx h3 (λi o e f=>by
       by_cases hi:i∈ls.map cx.lb
       .grind
       .rw[g3 i hi];omega) (λ_ _=> .inr trivial) (λp hp=>(g3 p.1 (hnot p hp)).symm)
      refine(Oq (st:=⟨sl,t⟩) (ts:=ts) (ts':=ts') ho hc hf h1 h2 hsub (by grind) (h5.trans g2.symm)).eqv (Tb.fI _) ⟨?_,?_,λi=>?_⟩
      .grind [Tb.merge]
      .rw[g5];rfl
      .by_cases hi:i∈ls.map cx.lb
       .obtain⟨l,hl,rfl⟩:=bE.1 hi;rw[xN,(h6 l hl).2,(h6 l hl).1,g7 l hl]
       .rw[g6 i hi,xN,xN,g3 i hi]
    grind
   grind
  grind
 | .w keep,h=>by
  obtain⟨x,a_,⟨h1,h2⟩,h3⟩:=A2 (st:=⟨sl,tb⟩) (o:=o) h;exact⟨x,a_,h2,h1,h3⟩
theorem Mn{m:List (Nat×Cls)}{n:Nat}(h:zx m ops n=true){i j:Nat}(hi:i<n)(hj:j<n)(hij:i<j)(hc:conf (iu m i) (iu m j)=true):dep ops i n j=true:=by
 unfold zx at h;have h1:=gX.1 h i (si.2 hi)
 grind
def rgE(P:Program)(cx:Cx)(m:List (Nat×Cls))(ops:Array Oper)(K:AS->Prop):Nat->List Oper->AS->Prop
 |_,[],st=>K st
 |k,o::l,st=>∃x a_,oQ P cx ops (iu m k) o x st.sl st.tb a_/\rgE P cx m ops K (k+1) l ⟨h_ st.sl o.dst x,a_⟩
theorem oI{cx:Cx}{m:List (Nat×Cls)}{K:AS->Prop}:∀(l:List Oper) (k:Nat) (st:AS),Hr P cx m ops K k l st->rgE P cx m ops K k l st
 |[],_,_,h=>h
 |o::l,k,st,h=>by
  unfold Hr at h;split at h
  .rename_i hw;obtain⟨x,a_,h1,h2⟩:=abo _ h;exact⟨x,a_,.inl ⟨hw,h2⟩,oI l _ _ h1⟩
  .rename_i hw;exact⟨Wp,st.tb,.inr ⟨hw,rfl,rfl⟩,oI l _ _ h⟩
  grind
theorem vG{cx:Cx}{m:List (Nat×Cls)}{K K1:AS->Prop}(l2:List Oper):∀(l1:List Oper) (k:Nat) (st:AS),rgE P cx m ops K1 k l1 st->(∀st',K1 st'->rgE P cx m ops K (k+l1.length) l2 st')->rgE P cx m ops K k (l1++l2) st
 |[],_,_,h,hk=>hk _ h
 |o::l1,k,st,⟨x,a_,h1,h2⟩,hk=>⟨x,a_,h1,vG l2 l1 (k+1) _ h2 λst' h'=>by grind⟩
theorem De{cx:Cx}{m:List (Nat×Cls)}{K:AS->Prop}(hch:zx m ops ops.size=true):∀(l:List Oper) (k:Nat) (listed:Array Bool) (st:AS),(∀j,l[j]?=ops[k+j]?)->Down ops listed->(∀j,j<k->j<ops.size->listed.getD j true=true)->listed.size=ops.size->Region.lexFrom .any ops l.length k listed=true->rgE P cx m ops K k l st->pG P cx m ops K l.length listed st
 |[],_,_,_,_,_,_,_,hB,h=>⟨by grind [Region.lexFrom],h⟩
 |o::l,k,listed,st,hl,hD,hlt,hsz,hB,h=>by
  have h0:ops[k]?=some o:=by simpa using(hl 0).symm
  have hk:k<ops.size:=(Array.getElem?_eq_some_iff.1 h0).1;simp only[cF,Region.lexFrom,bG]at hB;obtain⟨⟨hr,hf⟩,hB'⟩:=hB;have hr':k∈Region.ready .any ops listed:=by grind
  obtain⟨x,a_,hy,hK⟩:=h;refine xH h0 ops.size l.length listed st a_ hD (Region.free_spec h0 hf) (λj oj hj hjk hun hc=>?_) hr' hy ?_
  .grind [Mn]
  .refine De hch l (k+1) _ _ (λj=>by have:=hl (j+1);grind) (hD.set hr') (λj hj hjs=>?_) (by grind) hB' hK;by_cases hjk:k=j
   .simp_all
   .rw[getD_set_ne true hjk];grind
end
def uE(fr:Fr)(iM:Nat):Prop:=∀i,iM<=i->fr.g0.ob i=none/\fr.g0.rv i=none
def AS.le(iM:Nat)(st st':AS):Prop:=∀fr a w,uE fr iM->jK fr st a w->jK fr st' a w
theorem AS.le_refl(iM:Nat)(st:AS):st.le iM st:=λ_ _ _ _ h=>h
def AS.le.trans{iM:Nat}{a b c:AS}(h:a.le iM b)(k:b.le iM c):a.le iM c:=λfr x w hf hs=>k fr x w hf (h fr x w hf hs)
def mOf(cls:List (Nat×List (Nat×Cls)))(id:Nat):List (Nat×Cls):=(lk id cls).getD []
def Cx.m(cx:Cx)(id:Nat):List (Nat×Cls):=mOf cx.cls id
def wkO(P:Program)(cx:Cx)(ops:Array Oper)(K:AS->Prop)(st:AS):Option Oper->Prop
 |some o=>match ke ops st.sl o with
  |some true=>mX P (cx.xE o.dst) o.op (bT st.sl) st.tb λx a_=>K ⟨h_ st.sl o.dst x,a_⟩
  |some false=>K (st.put o.dst Wp)
  |none=>False
 |none=>False
def wkQ(P:Program)(ops:Array Oper)(K:AS->Prop)(st:AS):Option Oper->Prop
 |some o=>match ke ops st.sl o with
  |some true=>jq P o.op (bT st.sl) λx=>K ⟨h_ st.sl o.dst x,st.tb⟩
  |some false=>K (st.put o.dst Wp)
  |none=>False
 |none=>False
def ga(P:Program)(cx:Cx)(ops:Array Oper)(K:AS->Prop):OT->Bool->AS->Prop
 | .lf,b,st=>if b=true then K st else True
 | .br i sub QB,_,st=>wkO P cx ops (ga P cx ops K sub true) st ops[i]?/\ga P cx ops K QB false st
 | .one i sub,_,st=>wkQ P ops (ga P cx ops K sub true) st ops[i]?
def Wq:OT->List Nat
 | .lf=>[]
 | .br i sub QB=>i::(Wq sub++Wq QB)
 | .one _ sub=>Wq sub
def mT(t:OT):List (Nat×Cls):=(Wq t).map λi=>(i,.w [])
def isQ:Cls->Bool
 | .q=>true
 |_=>false
def ng(m:List (Nat×Cls))(ops:Array Oper):OT->Nat->Array Bool->List Nat->Bool
 | .lf,_,_,rs=>rs.isEmpty
 | .br _ _ _,0,_,_=>false
 | .br i sub QB,f+1,listed,rs=>match rs with
  |r::rs'=>decide (r=i)&&(ng m ops sub f (listed.setIfInBounds i true) (Region.ready .any ops (listed.setIfInBounds i true))&&ng m ops QB (f+1) listed rs')
  |[]=>false
 | .one _ _,0,_,_=>false
 | .one i sub,f+1,listed,rs=>decide (rs=Region.ready .any ops listed)&&(Region.ready .any ops listed).contains i&&Region.free .any ops listed i&&isQ (iu m i)&&ng m ops sub f (listed.setIfInBounds i true) (Region.ready .any ops (listed.setIfInBounds i true))
def agT(P:Program)(cx:Cx)(m:List (Nat×Cls))(ops:Array Oper)(K:AS->Prop):List Nat->Nat->List Oper->AS->Prop
 |[],k,l,st=>∃K':AS->Prop,(∀st',K' st'->K st')/\Hr P cx m ops K' k l st
 |n::ns,k,l,st=>∃K':AS->Prop,(∀st',K' st'->agT P cx m ops K ns (k+(l.take n).length) (l.drop n) st')/\Hr P cx m ops K' k (l.take n) st
def LP(P:Program)(cx:Cx)(m:List (Nat×Cls))(ops:Array Oper)(K:AS->Prop)(st:AS):Option OT->Prop
 |some .lf=>∃ns:List Nat,agT P cx m ops K ns 0 ops.toList st
 |some (.br i s t)=>ga P cx ops K (.br i s t) true st
 |some (.one i s)=>ga P cx ops K (.one i s) true st
 |none=>Hr P cx m ops K 0 ops.toList st
def alB(cls:List (Nat×List (Nat×Cls)))(id:Nat)(ops:Array Oper):Option OT->Bool
 |some (.br i s t)=>ng (mT (.br i s t)) ops (.br i s t) ops.size (Array.replicate ops.size false) (Region.ready .any ops (Array.replicate ops.size false))
 |some (.one i s)=>ng (mT (.one i s)) ops (.one i s) ops.size (Array.replicate ops.size false) (Region.ready .any ops (Array.replicate ops.size false))
 |some .lf=>Region.lexB .any ops&&zx (mOf cls id) ops ops.size
 |none=>Region.lexB .any ops&&zx (mOf cls id) ops ops.size
section
variable{P:Program}{ops:Array Oper}
theorem Ae{cx:Cx}{m:List (Nat×Cls)}{K:AS->Prop}:∀(ns:List Nat) (k:Nat) (l:List Oper) (st:AS),agT P cx m ops K ns k l st->rgE P cx m ops K k l st
 |[],k,l,st,⟨K',hK,h⟩=>by
  have:=vG (P:=P) (ops:=ops) (cx:=cx) (m:=m) (K:=K) [] l k st (oI l k st h) (λst' h'=>hK st' h')
  grind
 |n::ns,k,l,st,⟨K',hK,h⟩=>by
  have:=vG (P:=P) (ops:=ops) (cx:=cx) (m:=m) (K:=K) (l.drop n) (l.take n) k st (oI _ k st h) (λst' h'=>Ae ns _ _ st' (hK st' h'));simp_all
end
section
variable{P:Program}{fr:Fr}{ops:Array Oper}
def LX{cx:Cx}{m:List (Nat×Cls)}{i:Nat}{st:AS}{K K':AS->Prop}(hm:iu m i= .w [])(hK:∀st,K st->K' st)(h:wkO P cx ops K st ops[i]?):Wr P cx m ops i K' st:=by
 unfold Wr;cases ho:ops[i]? with
 |none=>rw[ho]at h;exact h.elim
 |some o=>
  rw[ho]at h;unfold wkO at h;simp only at h⊢;split at h
  .rename_i hw;obtain⟨x,a_,h1,h2⟩:=A2 h;refine⟨x,a_,.inl ⟨hw,?_⟩,hK _ h1⟩;rw[hm];exact⟨λl hl=>by grind,h2⟩
  .rename_i hw;exact⟨Wp,st.tb,.inr ⟨hw,rfl,rfl⟩,hK _ h⟩
  grind
theorem Oa{cx:Cx}{m:List (Nat×Cls)}{K:AS->Prop}:∀(t:OT),(∀i∈Wq t,iu m i= .w [])->(∀(f:Nat) (listed:Array Bool) (st:AS),Down ops listed->ng m ops t f listed (Region.ready .any ops listed)=true->ga P cx ops K t true st->pG P cx m ops K f listed st)/\(∀(f:Nat) (listed:Array Bool) (rs:List Nat) (b:Bool) (st:AS),Down ops listed->(∀i∈rs,i∈Region.ready .any ops listed)->ng m ops t (f+1) listed rs=true->ga P cx ops K t b st->∀i∈rs,Wr P cx m ops i (pG P cx m ops K f (listed.setIfInBounds i true)) st)
 | .lf,_=>by
  refine⟨λf listed st hD hB h=>?_,λf listed rs b st hD qu hB h i hi=>?_⟩
  .have h0:Region.ready .any ops listed=[]:=by grind [ng]
   have hk:K st:=by grind [ga]
   cases f with
   |zero=>exact⟨h0,hk⟩
   |succ f=>exact⟨λ_=>hk,λi hi=>by grind⟩
  grind [ng]
 | .br j sub QB,hm=>by
  have key:∀(f:Nat) (listed:Array Bool) (rs:List Nat) (b:Bool) (st:AS),Down ops listed->(∀i∈rs,i∈Region.ready .any ops listed)->ng m ops (.br j sub QB) (f+1) listed rs=true->ga P cx ops K (.br j sub QB) b st->∀i∈rs,Wr P cx m ops i (pG P cx m ops K f (listed.setIfInBounds i true)) st:=by
   intro f listed rs b st hD qu hB h i hi;unfold ng at hB;cases rs with
   |nil=>grind
   |cons r rs'=>
    simp only[bG,eZ]at hB;obtain⟨rfl,h1,h2⟩:=hB;unfold ga at h;rcases fF.1 hi with rfl|hi
    .exact LX (hm _ (by simp[Wq])) (λst h'=>(Oa sub λi hi=>hm i (by simp[Wq,hi])).1 f _ st (hD.set (qu _ H)) h1 h') h.1
    .exact(Oa QB λi hi=>hm i (by simp[Wq,hi])).2 f listed rs' false st hD (λi hi=>qu i (by grind)) h2 h.2 i hi
  refine⟨λf listed st hD hB h=>?_,key⟩;cases f with
  |zero=>grind [ng]
  |succ f=>
   refine⟨λh0=>?_,key f listed _ true st hD (λi hi=>hi) hB h⟩
   grind [ng]
 | .one j sub,hm=>by
  have key:∀(f:Nat) (listed:Array Bool) (rs:List Nat) (b:Bool) (st:AS),Down ops listed->ng m ops (.one j sub) f listed rs=true->ga P cx ops K (.one j sub) b st->rs=Region.ready .any ops listed/\pG P cx m ops K f listed st:=by
   intro f listed rs b st hD hB h;cases f with
   |zero=>grind [ng]
   |succ f=>
    unfold ng at hB;simp only[bG,eZ]at hB;obtain⟨⟨⟨⟨h1,h2⟩,h3⟩,h4⟩,h5⟩:=hB;have hr:j∈Region.ready .any ops listed:=by grind
    have hq:iu m j= .q:=by
     cases hc:iu m j with
     |q=>rfl
     |_=>rw[hc]at h4;cases h4
    refine⟨h1,?_⟩;unfold ga at h;cases ho:ops[j]? with
    |none=>rw[ho]at h;exact h.elim
    |some o=>
     rw[ho]at h;unfold wkQ at h;simp only at h;have fin:∀{x:AV},oQ P cx ops (iu m j) o x st.sl st.tb st.tb->ga P cx ops K sub true ⟨h_ st.sl o.dst x,st.tb⟩->pG P cx m ops K (f+1) listed st:=λhy hk=>
      xH ho ops.size f listed st _ hD (Region.free_spec ho h3) (λk ok hk hkj hun hc=>by grind [conf]) hr hy ((Oa sub λi hi=>hm i (by grind [Wq])).1 f _ _ (hD.set hr) h5 hk)
     split at h
     .rename_i hw;obtain⟨x,h6,h7⟩:=GO h;exact fin (.inl ⟨hw,by rw[hq];exact⟨Tb.fI _,h7⟩⟩) h6
     .rename_i hw;exact fin (x:=Wp) (.inr ⟨hw,rfl,rfl⟩) h
     grind
  refine⟨λf listed st hD hB h=>(key f listed _ true st hD hB h).2,λf listed rs b st hD qu hB h i hi=>?_⟩;obtain⟨e,hA⟩:=key (f+1) listed rs b st hD hB h;exact hA.2 i (e▸hi)
def apB(t:OT):∀i∈Wq t,iu (mT t) i= .w []:=by
 intro i hi;unfold iu mT;generalize Wq t=L at hi⊢
 induction L with
 |nil=>grind
 |cons j l ih=>
  grind [lk]
def Db{cx:Cx}{K:AS->Prop}{Q:Exit->Act->World->Prop}(hd:ops.all (oY fr.n)=true)(hQ:∀st a w,K st->jK fr st a w->Q .normal a w)(t:OT)(f:Nat)(listed:Array Bool)(st:AS)(hD:Down ops listed)(hB:ng (mT t) ops t f listed (Region.ready .any ops listed)=true)(h:ga P cx ops K t true st)(a:Act)(w:World)(hs:jK fr st a w):wpAny P .any ops Q f listed a w:=vH hd hQ _ _ _ ((Oa t (apB t)).1 f listed st hD hB h) a w hs
end
def codeOk(cls:List (Nat×List (Nat×Cls)))(ot:List (Nat×OT))(n:Nat):Code->Bool
 | .region id ops d=>ops.all (oY n)&&(!d||alB cls id ops (lk id ot))
 | .seq a b=>codeOk cls ot n a&&codeOk cls ot n b
 | .cond _ a b=>codeOk cls ot n a&&codeOk cls ot n b
 | .block _ c=>codeOk cls ot n c
 | .loop c=>codeOk cls ot n c
 |_=>true
def af6:Option OT->Bool
 |some .lf=>true
 |_=>false
def rgC(P:Program)(cx:Cx)(ops:Array Oper)(K:AS->Prop):List Nat->List Oper->AS->Prop
 |[],l,st=>∃K':AS->Prop,(∀st',K' st'->K st')/\D3 P cx ops K' l st
 |n::ns,l,st=>∃K':AS->Prop,(∀st',K' st'->rgC P cx ops K ns (l.drop n) st')/\D3 P cx ops K' (l.take n) st
def Lx(P:Program)(cx:Cx)(ops:Array Oper)(K:AS->Prop)(st:AS):Bool->Prop
 |true=>∃ns:List Nat,rgC P cx ops K ns ops.toList st
 |false=>D3 P cx ops K ops.toList st
section
variable{P:Program}{fr:Fr}{ops:Array Oper}
theorem zy{cx:Cx}{K:AS->Prop}{Q:Exit->Act->World->Prop}(l2:List Oper)(hQ:∀st a w,K st->jK fr st a w->wpList P ops Q l2 a w):∀(l:List Oper) (st:AS),l.all (oY fr.n)=true->D3 P cx ops K l st->∀a w,jK fr st a w->wpList P ops Q (l++l2) a w
 |[],st,_,h,a,w,hs=>hQ st a w h hs
 |o::l,st,hd,h,a,w,hs=>by
  simp only[yE,bG]at hd;unfold D3 at h;have hsS:=hs;obtain⟨g,_,_,h2,_,_⟩:=hsS;rw[kP];split at h
  .rename_i hw;have hw:=nY h2 hw;unfold wpList;rw[ai hw];obtain⟨x,a_,hx,hy⟩:=A2 h;exact .inl (Dc hs hd.1 hy λa' w' hs'=>zy l2 hQ l _ hd.2 hx a' w' hs')
  .rename_i hw;have hw:=nY h2 hw;unfold wpList;rw[ah (by grind)];exact zy l2 hQ l _ hd.2 h _ _ (Dd hs hd.1)
  grind
theorem y_{cx:Cx}{K:AS->Prop}{Q:Exit->Act->World->Prop}(hQ:∀st a w,K st->jK fr st a w->Q .normal a w):∀(ns:List Nat) (l:List Oper) (st:AS),l.all (oY fr.n)=true->rgC P cx ops K ns l st->∀a w,jK fr st a w->wpList P ops Q l a w
 |[],l,st,hd,h,a,w,hs=>by
  obtain⟨K',hK,h⟩:=h
  grind [sW]
 |n::ns,l,st,hd,h,a,w,hs=>by
  obtain⟨K',hK,h⟩:=h;have h1:(l.take n).all (oY fr.n)=true:=gX.2 λx hx=>gX.1 hd x (oa hx);have h2:(l.drop n).all (oY fr.n)=true:=gX.2 λx hx=>gX.1 hd x (fq hx);have:=zy (Q:=Q) (l.drop n) (λst a w h3 h4=>y_ hQ ns (l.drop n) st h2 (hK st h3) a w h4) (l.take n) st h1 h a w hs;simp_all
end
def aw(P:Program)(cx:Cx):Code->AS->(Exit->AS->Prop)->Prop
 | .skip,st,Q=>Q .normal st
 | .region id ops d,st,Q=>match d with
  |true=>LP P cx (cx.m id) ops (Q .normal) st (lk id cx.ot)
  |false=>Lx P cx ops (Q .normal) st (af6 (lk id cx.ot))
 | .seq a b,st,Q=>aw P cx a st λe st'=>match e with
  | .normal=>aw P cx b st' Q
  |e=>Q e st'
 | .cond c a b,st,Q=>match bT st.sl c with
  | .p (.sc (.bool t))=>if t=true then aw P cx a st Q else aw P cx b st Q
  |_=>False
 | .block id c,st,Q=>aw P cx c st λe st'=>match e with
  | .exit j=>if j=id then Q .normal st' else Q (.exit j) st'
  |e=>Q e st'
 | .loop c,st,Q=>∃(I:Nat->AS->Prop) (H1:Nat->Exit->AS->Prop) (n0:Nat),(∃Uh,st.le cx.iM Uh/\I n0 Uh)/\(∀n st1,I n st1->aw P cx c st1 (H1 n))/\∀n e st',H1 n e st'->match e with
  | .normal=>∃n' aa3,n'<n/\st'.le cx.iM aa3/\I n' aa3
  |e=>Q e st'
 | .exit id,st,Q=>Q (.exit id) st
 | .ret,st,Q=>Q .ret st
 |_,_,_=>False
section
variable{P:Program}{fr:Fr}
def Post(fr:Fr)(Q:Exit->AS->Prop):Exit->Act->World->Prop:=λe a w=>∃st,Q e st/\jK fr st a w
theorem iU(hm:P.follows .mixedOrders=true){cx:Cx}(hfr:uE fr cx.iM):∀(c:Code) (st:AS) (Q:Exit->AS->Prop),codeOk cx.cls cx.ot fr.n c=true->aw P cx c st Q->∀a w,jK fr st a w->c.wp P (Post fr Q) a w
 | .skip,st,Q,_,h,a,w,hs=>wp_skip ⟨st,h,hs⟩
 | .region id ops d,st,Q,hk,h,a,w,hs=>by
  simp only[codeOk,bG,vb,sj]at hk;cases d with
  |true=>
   simp only[aw]at h;have hR:alB cx.cls id ops (lk id cx.ot)=true:=by grind
   have hs':jK fr st a {w with drawn:=w.drawn+1}:=by
    obtain⟨g,h0,h1,h2,h3,h4⟩:=hs;exact⟨g,h0,h1.drew,h2,h3,h4⟩
   have key:(Region.lexB .any ops&&zx (mOf cx.cls id) ops ops.size)=true->rgE P cx (cx.m id) ops (Q .normal) 0 ops.toList st->(Code.region id ops true).wp P (Post fr Q) a w:=by
    intro hR h;refine wp_region_any hm ?_;simp only[bG]at hR;obtain⟨hB,hC⟩:=hR;simp only[Region.lexB,bG]at hB;have hA:=De (P:=P) (ops:=ops) hC ops.toList 0 (Array.replicate ops.size false) st H (λj oj hj hl=>by
     simp only[yB]at hl
     grind) (λj hj _=>O) H (by grind) h
    grind [vH,Post]
   have hD0:Down ops (Array.replicate ops.size false):=λj oj hj hl=>by
    simp only[yB]at hl
    grind
   cases ht:lk id cx.ot with
   |some t=>
    rw[ht]at h hR;cases t with
    |lf=>
     obtain⟨ns,h⟩:=h;exact key hR (Ae ns 0 _ _ h)
    |br i s t=>
     refine wp_region_any hm ?_;exact Db (Q:=Post fr Q) hk.1 (λst a w h1 h2=>⟨st,h1,h2⟩) (.br i s t) _ _ st hD0 hR h a _ hs'
    |one i s=>
     refine wp_region_any hm ?_;exact Db (Q:=Post fr Q) hk.1 (λst a w h1 h2=>⟨st,h1,h2⟩) (.one i s) _ _ st hD0 hR h a _ hs'
   |none=>
    rw[ht]at h hR;exact key hR (oI _ _ _ h)
  |false=>
   simp only[aw]at h;unfold Lx at h
   grind [wp_region_list,y_,Post,sW]
 | .seq x y,st,Q,hk,h,a,w,hs=>by
  simp only[codeOk,bG]at hk;simp only[aw]at h;refine wp_seq (wp_mono (iU hm hfr x st _ hk.1 h a w hs) ?_);rintro e a' w' ⟨st',hq,hs'⟩;cases e with
  |normal=>exact iU hm hfr y st' Q hk.2 hq a' w' hs'
  |_=>exact⟨st',hq,hs'⟩
 | .cond c x y,st,Q,hk,h,a,w,hs=>by
  simp only[codeOk,bG]at hk;simp only[aw]at h;have hsS:=hs;obtain⟨g,_,_,h2,_,_⟩:=hsS;split at h
  .rename_i t hc;have hv:a.eval c= .bool t:=by
    have:=kN (a:=a) c (λt _=>h2 t)
    grind [bU]
   cases t with
   |true=>exact wp_cond_true hv (iU hm hfr x st Q hk.1 (U h) a w hs)
   |false=>exact wp_cond_false hv (iU hm hfr y st Q hk.2 (U h) a w hs)
  grind
 | .block id c,st,Q,hk,h,a,w,hs=>by
  simp only[codeOk]at hk;simp only[aw]at h;refine wp_block (wp_mono (iU hm hfr c st _ hk h a w hs) ?_);rintro e a' w' ⟨st',hq,hs'⟩;cases e with
  |exit j=>
   simp only[Exit.inBlock]at hq⊢;split
   .rename_i e;rw[ai e]at hq;exact⟨st',hq,hs'⟩
   .rename_i e;rw[ah e]at hq;exact⟨st',hq,hs'⟩
  |_=>exact⟨st',hq,hs'⟩
 | .loop c,st,Q,hk,h,a,w,hs=>by
  simp only[codeOk]at hk;simp only[aw]at h;obtain⟨I,H1,n0,⟨Uh,hle,hI⟩,agU,hH⟩:=h;refine wp_loop_ghost (λk a w=>∃st,I k st/\jK fr st a w) n0 ⟨Uh,hI,hle _ _ _ hfr hs⟩ ?_;rintro k a w ⟨st1,hI1,hs1⟩;refine wp_mono (iU hm hfr c st1 _ hk (agU k st1 hI1) a w hs1) ?_;rintro e a' w' ⟨st',hq,hs'⟩;have hq:=hH _ _ _ hq;cases e with
  |normal=>obtain⟨n',aa3,h1,h2,h3⟩:=hq;exact⟨n',h1,aa3,h3,h2 _ _ _ hfr hs'⟩
  |_=>exact⟨st',hq,hs'⟩
 | .exit id,st,Q,_,h,a,w,hs=>wp_exit ⟨st,h,hs⟩
 | .ret,st,Q,_,h,a,w,hs=>wp_ret ⟨st,h,hs⟩
 | .rangeFunc _ _ _ _,_,_,_,h,_,_,_=>h.elim
 | .scope _,_,_,_,h,_,_,_=>h.elim
 | .label _,_,_,_,h,_,_,_=>h.elim
 | .goto _,_,_,_,h,_,_,_=>h.elim
 | .refuse _,_,_,_,h,_,_,_=>h.elim
def mW:List AV->Nat->Nat->AV
 |[],_=>λ_=> .any
 |x::l,k=>AJ (mW l (k+1)) k x
def mD(xs:List AV)(tb:Tb):AS:=⟨mW xs 0,tb⟩
def nH(P:Program)(st:AS):List ResultVar->Option (List AV)
 |[]=>some []
 | .tmp t::l=>match nH P st l with
  |some zs=>some (st.sl t::zs)
  |none=>none
 | .cell t ty::l=>match ES (st.sl t) ty,nH P st l with
  |some z,some zs=>some (z::zs)
  |_,_=>none
where ES:AV->TypeId->Option AV
 | .obj id off,ty=>match lk id st.tb.bx,bS P ty,aW P ty with
  |some ob,some ag,some s=>nL off s ag ob.xs
  |_,_,_=>none
 | .p (.ref x),ty=>if fits P ty x=true then some (.p x)else none
 |_,_=>none
def wL:List AV->AV
 |[x]=>x
 |l=> .agg true l
def CT:List PC->PC
 |[x]=>x
 |l=> .agg true l
def CS(P:Program)(R:List AV->Tb->Prop)(tb:Tb):Option (List AV)->Prop
 |some zs=>R zs tb
 |none=>False
def ur(P:Program)(fn:Func)(R:List AV->Tb->Prop):Exit->AS->Prop
 | .normal,st=>CS P R st.tb (nH P st fn.results.toList)
 | .ret,st=>CS P R st.tb (nH P st fn.results.toList)
 |_,_=>False
theorem oE{g:G}:∀(xs:List AV) (vs:List Value) (k:Nat),aV g vs xs->∀t,bJ g ((vs[t-k]?).getD undef) (if k<=t then mW xs k t else .any)
 |[],_,k,_,t=>by
  have:(if k<=t then mW [] k t else AV.any)= .any:=by split<;>rfl
  rw[this];exact .any _
 |x::xs,_,k,.cons (v:=v) (vs:=vs) h hs,t=>by
  by_cases hk:k<=t
  .rw[ai hk];simp only[mW,AJ];by_cases e:t=k
   .grind
   .rw[ah e];have:=oE xs vs (k+1) hs t
    grind
  .rw[ah hk];exact .any _
def rC:∀(xs:List AV) (k t:Nat),k+xs.length<=t->mW xs k t= .any:=by
 intro xs
 induction xs with
 |nil=>intro k t _;rfl
 |cons x xs ih=>intro k t hk;simp only[cF]at hk;simp only[mW,AJ];grind
def z6:List Value->Value
 |[v]=>v
 |l=> .tuple l.toArray
def Ws(tmps:Array Value):ResultVar->Sem Value
 | .tmp t=>pure (tmps.getD t undef)
 | .cell a t=>do loadVar t (<-asAddr (tmps.getD a undef))
def pH{f:ResultVar->Sem Value}{r:ResultVar}{rs:List ResultVar}{v:Value}{vs:List Value}{w:World}(h1:(f r).run P w= .ok v w)(h2:(rs.mapM f).run P w= .ok vs w):((r::rs).mapM f).run P w= .ok (v::vs) w:=by
 simp_all
def Aq{w0:World}{M0:Mem}{F:Nat->Prop}{tb:Tb}{g:G}{w:World}(hw:bf w0 M0 F tb g w){id off b c s:Nat}{ag:Bool}{ob:Ob}{t:TypeId}{y:AV}(he:g.ob id=some (b,c))(hl:lk id tb.bx=some ob)(ht:bS P t=some ag)(hs:aW P t=some s)(hp:nL off s ag ob.xs=some y):∃u,(loadVar t ⟨b,off,none⟩).run P w= .ok u w/\bJ g u y:=by
 have CD:=hw.boxes id ob hl;by_cases hne:ob.xs=[]
 .unfold nL at hp;rw[hne]at hp;cases ag with
  |true=>
   simp only[cr]at hp;split at hp
   .rename_i hle;injection hp with hp;subst hp;simp only[fQ,Nat.le_zero]at hle;obtain⟨rfl,rfl⟩:off=0/\s=0:=O;exact⟨.agg #[],by simp[loadVar,iZ ht,run_sizeOf hs,loadCells,loadCellsFrom],by simpa using bJ.agg (g:=g) (vs:=[]) (xs:=[]) .nil H⟩
   grind
  |false=>grind
 have iQ:=CD.pos he hne;obtain⟨cur,f2,f3,⟨tt,fz,f4,fo⟩,f5,f6,f7,f8,f9⟩:=CD.real he iQ;generalize b=b' at*;have cell:∀j u,cur[j]?=some u->w.cell? ⟨b',j,none⟩=some u:=λj u e=>by grind [World.cell?]
 have hlen:=f8.length;unfold nL at hp;cases ag with
 |true=>
  simp only[cr]at hp;split at hp
  .rename_i hle;injection hp with hp;subst hp;have kW:off+s<=cur.toList.length:=by grind
   have hls:((cur.toList.drop off).take s).length=s:=by grind
   have hrun:=run_loadCells_list (P:=P) w ⟨b',off,none⟩ ((cur.toList.drop off).take s) (λj u e=>by
    grind [Addr.add_lit])
   rw[hls]at hrun;have e3:((cur.toList.take ob.xs.length).drop off).take s=(cur.toList.drop off).take s:=by
    grind [List.drop_take]
   have Kb:aV g ((cur.toList.drop off).take s) ((ob.xs.drop off).take s):=by
    have:=(f8.drop off).take s
    grind
   refine⟨.agg ((cur.toList.drop off).take s).toArray,?_,.agg Kb (λu hu=>f9 u ?_)⟩
   .simp[loadVar,iZ ht,run_sizeOf hs,hrun]
   grind
  grind
 |false=>
  simp only[dZ,dc]at hp;split at hp
  .obtain⟨u,hu,hr⟩:=f8.get hp;have Hs:cur[off]?=some u:=by
    grind
   exact⟨u,by simp[loadVar,iZ ht,load,Sem.run,cell _ _ Hs],hr⟩
  grind
theorem xy{w0:World}{M0:Mem}{F:Nat->Prop}{st:AS}{g:G}{a:Act}{w:World}(hs:Po st.sl g a)(hw:bf w0 M0 F st.tb g w):∀(rs:List ResultVar) (zs:List AV),nH P st rs=some zs->∃vs,(rs.mapM (Ws a.tmps)).run P w= .ok vs w/\aV g vs zs
 |[],zs,h=>by simp only[nH,uH]at h;subst h;exact⟨[],H,.nil⟩
 | .tmp t::rs,zs,h=>by
  simp only[nH]at h;split at h
  .rename_i zs' hz;injection h with h;subst h;obtain⟨vs,h1,h2⟩:=xy hs hw rs zs' hz;exact⟨a.tmps.getD t undef::vs,pH rfl h1,.cons (hs t) h2⟩
  grind
 | .cell ad ty::rs,zs,h=>by
  simp only[nH]at h;split at h
  .rename_i z zs' hc hz;injection h with h;subst h;obtain⟨vs,h1,h2⟩:=xy hs hw rs zs' hz;have oO:=hs ad;unfold nH.ES at hc;split at hc
   .rename_i id off heq;rw[heq]at oO;generalize hv:a.tmps.getD ad undef=v at oO;cases oO with
    |obj e=>
     split at hc
     .rename_i ob ag s hl ha hs';obtain⟨u,hu,hr⟩:=Aq (P:=P) hw e hl ha hs' hc;exact⟨u::vs,pH (by grind [Ws,asAddr]) h1,.cons hr h2⟩
     grind
   .rename_i x heq;rw[heq]at oO;split at hc
    .rename_i hf;injection hc with hc;subst hc;have:=bO oO;generalize hv:a.tmps.getD ad undef=v at this;cases this with
     |ref eM hru=>
      rename_i u;have hl:=rO (P:=P) hf hru eM hw.holds;exact⟨u::vs,pH (by grind [Ws,asAddr]) h1,.cons (.p hru) h2⟩
    grind
   grind
  grind
theorem qF{fn:Func}{a:Act}{w:World}{vs:List Value}(h:(fn.results.toList.mapM (Ws a.tmps)).run P w= .ok vs w):(results fn a.tmps).run P w= .ok (z6 vs) w:=by
 have e:results fn a.tmps=(do
  let vs<-fn.results.mapM (Ws a.tmps)
  pure (if h:vs.size=1 then vs[0]else .tuple vs)):=by
  unfold results;congr 1
 rw[e,Array.mapM_eq_mapM_toList,Sem.run_bind,Sem.run_map,h];simp only[Result.andThen_ok,Sem.run_pure];congr 1
 match vs with
 |[]=>rfl
 |[v]=>rfl
 |_::_::_=>simp[z6]
theorem pZ{g:G}{vs:List Value}{zs:List AV}(h:aV g vs zs):bJ g (z6 vs) (wL zs):=by
 cases h with
 |nil=>exact .sE .nil
 |cons h1 hs=>
  cases hs with
  |nil=>exact h1
  |cons h2 hs=>exact .sE (.cons h1 (.cons h2 hs))
def zA{f:FuncId}{fn:Func}{c:Code}{xs:List AV}{tb:Tb}{cx:Cx}{R:List AV->Tb->Prop}(hm:P.follows .mixedOrders=true)(hf:P.funcs[f]?=some fn)(hb:fn.body=some c)(hk:codeOk cx.cls cx.ot fn.ntmps c=true)(hx:xs.length<=fn.ntmps)(hcx:cx.iM=tb.nx)(h:aw P cx c (mD xs tb) (ur P fn R)){g:G}{w:World}{vs:List Value}{F:Nat->Prop}(hw:bf w g.M F tb g w)(hvs:aV g vs xs):Calls P f vs.toArray w λe w'=>∃us zs g' a_,e= .returned (z6 us)/\g.le g'/\bf w g.M F a_ g' w'/\aV g' us zs/\R zs a_:=by
 have hlen:=hvs.length;refine calls_of_wp hf hb ?_
 let fr:Fr:=⟨w,g.M,F,g,fn.ntmps,[]⟩
 have hfr:uE fr cx.iM:=λi hi=>hw.fresh i O;have qf:jK fr (mD xs tb) {tmps:=vs.toArray++Array.replicate (fn.ntmps-vs.toArray.size) undef,defers:=[]} w:=by
  refine⟨g,G.le_refl g,hw,?_,?_,rfl⟩
  .intro t;have:=oE (g:=g) xs vs 0 hvs t;simp only[Nat.sub_zero,q_,cr]at this;show bJ _ _ (mW xs 0 t);by_cases ht:t<vs.length
   .have e:(vs.toArray++Array.replicate (fn.ntmps-vs.toArray.size) undef).getD t undef=(vs[t]?).getD undef:=by
     simp[F0,ht]
    grind
   .rw[rC xs 0 t O];exact .any _
  grind
 refine wp_mono (iU (fr:=fr) hm hfr c _ _ hk h _ w qf) ?_;rintro e a w' ⟨st,hq,hs⟩;obtain⟨g',h0,h1,h2,h3,h4⟩:=hs;have fin:CS P R st.tb (nH P st fn.results.toList)->a.defers=[]/\∃v,(results fn a.tmps).run P w'= .ok v w'/\∃us zs g' a_,Ending.returned v= .returned (z6 us)/\g.le g'/\bf w g.M F a_ g' w'/\aV g' us zs/\R zs a_:=by
  intro hres;unfold CS at hres
  grind [xy,qF]
 cases e with
 |normal=>exact fin hq
 |ret=>exact fin hq
 |_=>exact hq.elim
end
section
variable{P:Program}
def toAll_p{g:G}{us:List Value}{zs:List AV}{ys:List PC}(h:aV g us zs)(k:toAll zs (ys.map .p)):dh g.M us ys:=by
 have:=ig _ h k;clear h k
 induction ys generalizing us with
 |nil=>cases this;exact .nil
 |cons y ys ih=>cases this with|cons h hs=>exact .cons (bO h) (ih hs)
theorem EF{M:Mem}{vs:List Value}{ys:List PC}(h:dh M vs ys):jc M (z6 vs) (CT ys):=by
 cases h with
 |nil=>exact .sE .nil
 |cons h1 hs=>
  cases hs with
  |nil=>exact h1
  |cons h2 hs=>exact .sE (.cons h1 (.cons h2 hs))
def ED(ys:List PC):List AV->Tb->Prop:=λzs _=>toAll zs (ys.map .p)
def kU{f:FuncId}{fn:Func}{c:Code}{xs ys:List PC}{r:PC}(md:List Nat)(cls:List (Nat×List (Nat×Cls)))(lab:List (Nat×Nat))(hm:P.follows .mixedOrders=true)(hf:P.funcs[f]?=some fn)(hb:fn.body=some c)(hnm:(fn.name=="runtime.NumGoroutine")=false)(hk:codeOk cls [] fn.ntmps c=true)(hx:xs.length<=fn.ntmps)(hr:r=CT ys)(h:aw P ⟨md,cls,lab,0,[]⟩ c (mD (xs.map .p) ⟨[],[],0⟩) (ur P fn (ED ys))):nc P f xs r:=by
 refine⟨⟨fn,hf,hnm,by grind⟩,λM w vs hH hvs=>?_⟩;have hw:bf w M (λ_=>False) ⟨[],[],0⟩ ⟨M,λ_=>none,λ_=>none⟩ w:=by
  refine⟨hH,vj.refl _ _,λ_ _ _=>rfl,Mem.le_refl _,?_,?_,?_,?_,?_,?_⟩
  .grind [lk]
  .grind [lk]
  .simp
  all_goals simp
 have:=zA (cx:=⟨md,cls,lab,0,[]⟩) (g:=⟨M,λ_=>none,λ_=>none⟩) (F:=λ_=>False) hm hf hb hk (by grind) rfl h hw (lY hvs);refine this.mono ?_;rintro e w' ⟨us,zs,g',a_,rfl,hle,hS,hR,hz⟩;have NV:=toAll_p hR hz;refine⟨_,g'.M,rfl,by grind [EF],hS.holds,hle.M,λb hb=>hS.old b hb (λh=>h),?_⟩;exact⟨hS.keep.os,hS.keep.tape,hS.keep.output,hS.keep.size,λk hk=>hS.keep.block k hk (λh=>h)⟩
def Cf(rn:List (Nat×Nat))(i:Nat):Nat:=(lk i rn).getD i
def C4(iM:Nat)(rn:List (Nat×Nat))(tb a_:Tb):Prop:=(∀p∈rn,iM<=p.1)/\iM<=a_.nx/\uw (Cf rn) a_.nx tb.bx a_.bx/\Qz (Cf rn) a_.nx tb.rw a_.rw/\oP (Cf rn) a_.bx/\oP (Cf rn) a_.rw
theorem nS{iM:Nat}{rn:List (Nat×Nat)}(h:∀p∈rn,iM<=p.1){i:Nat}(hi:i<iM):Cf rn i=i:=by
 have:lk i rn=none:=by
  induction rn with
  |nil=>rfl
  |cons p l ih=>
   grind [lk]
 simp[Cf,this]
def Gg(iM:Nat)(rs:List AV)(a_:Tb):List AV->Tb->Prop:=λzs tb=>∃rn,C4 iM rn tb a_/\toAll zs (AV.cp.eu (Cf rn) rs)/\AV.ja.iA a_.nx rs=true
def zl{f:FuncId}{fn:Func}{c:Code}{xs rs:List AV}{r:AV}{tb a_:Tb}(md:List Nat)(cls:List (Nat×List (Nat×Cls)))(lab:List (Nat×Nat))(hm:P.follows .mixedOrders=true)(hf:P.funcs[f]?=some fn)(hb:fn.body=some c)(hnm:(fn.name=="runtime.NumGoroutine")=false)(hk:codeOk cls [] fn.ntmps c=true)(hx:xs.length<=fn.ntmps)(hr:r=wL rs)(h:aw P ⟨md,cls,lab,tb.nx,[]⟩ c (mD xs tb) (ur P fn (Gg tb.nx rs a_))):dm P f xs tb r a_:=by
 refine⟨⟨fn,hf,hnm,by grind⟩,λg w vs F hw hvs=>?_⟩;have:=zA (cx:=⟨md,cls,lab,tb.nx,[]⟩) hm hf hb hk hx rfl h hw hvs;refine this.mono ?_;rintro e w' ⟨us,zs,g',t,rfl,hle,hS,hR,rn,⟨h1,h2,h3,h4,h5,h6⟩,hto,wY⟩;refine⟨_,g'.cp (Cf rn) a_.nx,rfl,G.mS hle (iM:=tb.nx) (λi hi=>hw.fresh i O) h2 (λi hi=>nS h1 hi),hS.cp h3 h4 h5 h6,?_⟩
 grind [pZ,ie,ig]
def qL{f:FuncId}{fn:Func}{c:Code}{xs rs:List AV}{r:AV}{tb a_:Tb}(md:List Nat)(cls:List (Nat×List (Nat×Cls)))(lab:List (Nat×Nat))(ot:List (Nat×OT))(hm:P.follows .mixedOrders=true)(hf:P.funcs[f]?=some fn)(hb:fn.body=some c)(hnm:(fn.name=="runtime.NumGoroutine")=false)(hk:codeOk cls ot fn.ntmps c=true)(hx:xs.length<=fn.ntmps)(hr:r=wL rs)(h:aw P ⟨md,cls,lab,tb.nx,ot⟩ c (mD xs tb) (ur P fn (Gg tb.nx rs a_))):dm P f xs tb r a_:=by
 refine⟨⟨fn,hf,hnm,by grind⟩,λg w vs F hw hvs=>?_⟩;have:=zA (cx:=⟨md,cls,lab,tb.nx,ot⟩) hm hf hb hk hx rfl h hw hvs;refine this.mono ?_;rintro e w' ⟨us,zs,g',t,rfl,hle,hS,hR,rn,⟨h1,h2,h3,h4,h5,h6⟩,hto,wY⟩;refine⟨_,g'.cp (Cf rn) a_.nx,rfl,G.mS hle (iM:=tb.nx) (λi hi=>hw.fresh i O) h2 (λi hi=>nS h1 hi),hS.cp h3 h4 h5 h6,?_⟩
 grind [pZ,ie,ig]
def ze:List (Nat×AV)->Nat->AV
 |[]=>λ_=> .any
 |(k,v)::l=>AJ (ze l) k v
@[reducible]def NQ(l:List (Nat×AV))(tb:Tb):AS:=⟨ze l,tb⟩
def leL(rn:List (Nat×Nat))(m:Nat)(f:Nat->AV):List (Nat×AV)->Prop
 |[]=>True
 |(k,v)::l=>(f k).to (v.cp (Cf rn))/\v.ja m=true/\leL rn m f l
theorem OM{g:G}{rn:List (Nat×Nat)}{m:Nat}{f:Nat->AV}{t:Nat}{v:Value}(h:bJ g v (f t)):∀(l:List (Nat×AV)),leL rn m f l->bJ (g.cp (Cf rn) m) v (ze l t)
 |[],_=> .any v
 |(k,x)::l,hl=>by
  simp only[ze,AJ];split
  .rename_i e;subst e;exact Dh x (G9 _ h hl.1) hl.2.1
  .exact OM h l hl.2.2
theorem mS{iM:Nat}{st:AS}{l:List (Nat×AV)}{a_:Tb}(rn:List (Nat×Nat))(hr:C4 iM rn st.tb a_)(h:leL rn a_.nx st.sl l):st.le iM (NQ l a_):=by
 rintro fr a w hf ⟨g,h0,h1,h2,h3,h4⟩;obtain⟨k1,k2,k3,k4,k5,k6⟩:=hr;exact⟨g.cp (Cf rn) a_.nx,G.mS h0 hf k2 (λi hi=>nS k1 hi),h1.cp k3 k4 k5 k6,λt=>OM (h2 t) l h,h3,h4⟩
theorem setRow_self{w:World}{b:Nat}{cur:Array Value}{el:TypeId}{f:Nat×Nat}(h:w.heap[b]?=some (.cells cur el f)):w.setRow b cur=w:=by
 obtain⟨heap,tape,drawn,os,output⟩:=w
 grind [World.setRow,World.mk.injEq]
def Ci{iM:Nat}{st:AS}(t:Nat)(el sz:Nat)(xs:List PC)(h:st.sl t= .full xs\/xs=[]/\st.sl t= .p .nil):st.le iM ⟨AJ st.sl t (.own st.tb.nx xs),st.tb.cC el sz⟩:=by
 rintro fr a w hf ⟨g,h0,h1,h2,h3,h4⟩;have ht:∃ad n,a.tmps.getD t undef= .slice ad n n/\jc g.M (.slice ad n n) (.sl xs):=by
  have:=h2 t;rcases h with h|⟨rfl,h⟩
  .rw[h]at this;generalize a.tmps.getD t undef=v at this⊢;cases this with|full hr=>grind
  .rw[h]at this;have:=bO this;generalize a.tmps.getD t undef=v at this⊢;cases this;exact⟨none,0,rfl,.dX⟩
 obtain⟨ad,n,hv,hr⟩:=ht;refine⟨g.ez st.tb.nx (.slice ad n n),h0.trans (h1.DF _),h1.yb el sz ad n,λu=>?_,h3,h4⟩;simp only[AJ];split
 .rename_i e;subst e;rw[hv];exact .own (by simp[G.ez]) hr
 .exact(h2 u).mono (h1.DF _)
def j9{iM:Nat}{st:AS}(id j:Nat)(el sz:Nat)(ob:Ob)(xs:List PC)(hl:lk id st.tb.bx=some ob)(h:ob.xs[j]?=some (.full xs)\/xs=[]/\ob.xs[j]?=some (.p .nil)):st.le iM ⟨st.sl,(st.tb.cC el sz).aY id {ob with xs:=ob.xs.set j (.own st.tb.nx xs)}⟩:=by
 rintro fr a w hf ⟨g,h0,h1,h2,h3,h4⟩;obtain⟨b,c,f1,fr,f0⟩:=h1.boxes id ob hl;have CF:ob.xs≠[]:=λhz=>by grind
 have iQ:0<c:=qZ λhz=>CF (f0 hz);obtain⟨cur,f2,f3,⟨tt,fz,f4,fo⟩,f5,f6,f7,f8,f9⟩:=fr iQ;have ht:∃u ad n,(cur.toList.take ob.xs.length)[j]?=some u/\u= .slice ad n n/\jc g.M (.slice ad n n) (.sl xs):=by
  rcases h with h|⟨rfl,h⟩
  .obtain⟨u,hu,hr⟩:=f8.get h;cases hr with|full hr=>grind
  .obtain⟨u,hu,hr⟩:=f8.get h;have:=bO hr;cases this;exact⟨_,none,0,hu,rfl,.dX⟩
 obtain⟨u,ad,n,hu,rfl,hr⟩:=ht;have hle:=h1.DF (.slice ad n n);have jS:=h1.yb el sz ad n;have hl':lk id (st.tb.cC el sz).bx=some ob:=hl;have xA:∀{vs:List Value} {ys:List AV} (j:Nat) (v:Value),vs[j]?=some v->aV (g.ez st.tb.nx (.slice ad n n)) vs ys->bJ (g.ez st.tb.nx (.slice ad n n)) v (.own st.tb.nx xs)->aV (g.ez st.tb.nx (.slice ad n n)) vs (ys.set j (.own st.tb.nx xs)):=by
  intro vs ys
  induction ys generalizing vs with
  |nil=>grind
  |cons y ys ih=>
   intro j v hv hs hn;cases hs with
   |cons h hs=>
    cases j with
    |zero=>simp at hv;subst hv;exact .cons hn hs
    |succ j=>simp at hv;exact .cons h (ih j v hv hs hn)
 have key:=jS.aY (o':={ob with xs:=ob.xs.set j (.own st.tb.nx xs)}) (cur':=cur) hl' (show(g.ez st.tb.nx (.slice ad n n)).ob id=some (b,c)from f1) iQ f4 rfl rfl rfl (by grind) (by
  simp only[vh];exact xA j _ hu (f8.mono hle) (.own (by simp[G.ez]) (hr.mono hle.M))) O
 have hw:w.setRow b cur=w:=setRow_self f4;rw[hw]at key;exact⟨_,h0.trans hle,key,λt=>(h2 t).mono hle,h3,h4⟩
end
end Go.Av
