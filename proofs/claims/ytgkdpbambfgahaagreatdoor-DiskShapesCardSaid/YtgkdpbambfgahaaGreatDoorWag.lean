/- DiskShapes, part 7: an abstract interpreter over any program's form, with its proof of soundness; no condition. -/
import Derived.Test.YtgkdpbambfgahaaGreatDoorWaf
set_option linter.all false
set_option maxRecDepth 100000
set_option maxHeartbeats 64000000
namespace Go.Av
open Go.RowKit
def GY(P:Program)(cx:Cx)(ls:List Nat)(gf:FuncId)(caps:List PC)(args:List AV)(tb:Tb)(k:AV->Tb->Prop):Prop:=∃ys ts r ts',toAll args ys/\aE P gf (ys++caps.map .p) ts r ts'/\ay tb.bx ts.bx/\ay tb.rw ts.rw/\ts.nx=tb.nx/\(∀l∈ls,lk (cx.lb l) ts.bx=none/\lk (cx.lb l) ts'.bx=none)/\k r (tb.merge ts ts')
def vF(P:Program)(cx:Cx)(ls:List Nat)(args:List AV)(tb:Tb)(k:AV->Tb->Prop):AV->Prop
 | .p (.fn (.func gf) caps)=>GY P cx ls gf caps args tb k
 |_=>False
def KM(P:Program)(cx:Cx)(l:Nat)(t:TypeId)(tb:Tb)(k:AV->Tb->Prop)(y:AV):AV->Prop
 | .obj id off=>id=cx.lb l/\storeT P t tb k (.obj id off) y
 |_=>False
def Bq(P:Program)(cx:Cx)(l:Nat)(t:TypeId)(tb:Tb)(k:AV->Tb->Prop):AV->Prop
 | .obj id off=>id=cx.lb l/\loadT P t tb k (.obj id off)
 |_=>False
def zB(cx:Cx)(keep:List Nat)(tb:Tb)(k:AV->Tb->Prop):AV->Tb->Prop:=fun x aM=>keeps cx keep tb aM/\k x aM
def CX(P:Program)(cx:Cx)(md:Bool)(op:Op)(e:Operand->AV)(tb:Tb)(k:AV->Tb->Prop):Cls->Prop
 | .q=>h_ P op e fun y=>k y tb
 | .r l=>match op with
  | .load t x=>Bq P cx l t tb k (e x)
  |_=>False
 | .s l keep=>match op with
  | .store t x y=>KM P cx l t tb (zB cx keep tb k) (e y) (e x)
  |_=>False
 | .f ls=>match op with
  | .call c=>(match c.callee with
   | .builtin .append=>c.args.size=2/\c.argTypes.size=2/\Aq P (c.argTypes.getD 1 0) tb k (e (c.args.getD 0 (.tmp 0))) (e (c.args.getD 1 (.tmp 0))).nm (cU P (c.argTypes.getD 0 0))
   | .value f=>vF P cx ls (c.args.toList.map e) tb k (e f).nm
   |_=>False)
  |_=>False
 | .w keep=>kP P md op e tb (zB cx keep tb k)
def CW(P:Program)(cx:Cx)(m:List (Nat×Cls))(ops:Array Oper)(K:AS->Prop):Nat->List Oper->AS->Prop
 |_,[],st=>K st
 |i,o::rest,st=>match iK ops st.sl o with
  |some true=>CX P cx (cx.uB o.dst) o.op (bE st.sl) st.tb (fun x aM=>CW P cx m ops K (i+1) rest ⟨eL st.sl o.dst x,aM⟩) (eV m i)
  |some false=>CW P cx m ops K (i+1) rest (st.put o.dst PE)
  |none=>False
def vJ(m:List (Nat×Cls))(ops:Array Oper)(n:Nat):Bool:=(List.range n).all fun i=>(List.range n).all fun j=>!(decide (i<j)&&conf (eV m i) (eV m j))||dep ops i n j
section
variable{P:Program}{fr:Fr}{ops:Array Oper}
theorem Ug{c:Call}{sl:Nat->AV}{tb:Tb}{o:Oper}{k:AV->Tb->Prop}(ho:o.op= .call c)(hc:c.callee= .builtin .append)(ha:c.args.size=2)(ht:c.argTypes.size=2)(h:Aq P (c.argTypes.getD 1 0) tb k (bE sl (c.args.getD 0 (.tmp 0))) (bE sl (c.args.getD 1 (.tmp 0))).nm (cU P (c.argTypes.getD 0 0))):∃x dX e sz,k x (pL tb dX e sz)/\∀bx,dA P ⟨sl,⟨bx,tb.rw,tb.nx⟩⟩ o x (pL ⟨bx,tb.rw,tb.nx⟩ dX e sz):=by
 have ea:=vQ ha (.tmp 0);have et:=vQ ht 0;generalize c.args.getD 0 (.tmp 0)=x at*;generalize c.args.getD 1 (.tmp 0)=y at*;generalize c.argTypes.getD 0 0=t at*;generalize c.argTypes.getD 1 0=u at*;unfold Aq at h;split at h
 ·rename_i e sz bT hel;cases hX:E_ tb.rw e sz (bE sl x)with
  |none=>rw[hX]at h;exact h.elim
  |some q=>
   obtain⟨dX,xs⟩:=q;rw[hX]at h;have hR:=BA hX;unfold Hf at h;simp only at h;split at h
   ·rename_i s hy;obtain⟨rfl,h1,h2,h3,h4,h⟩:=h;exact⟨_,dX,e,1,h,fun bx=>Bc (st:=⟨sl,⟨bx,tb.rw,tb.nx⟩⟩) ho hc ea et hel h1 h2 h3 h4 hy (by cases dX<;>exact hR)⟩
   ·rename_i ys hy;obtain⟨h1,h2,h3,h4,h5,h6,h⟩:=h;exact⟨_,dX,e,sz,h,fun bx=>um (st:=⟨sl,⟨bx,tb.rw,tb.nx⟩⟩) ho hc ea et hel h1 h2 h3 h4 h5 h6 (.inl hy) (by cases dX<;>exact hR)⟩
   ·rename_i hy;obtain⟨h1,h2,h3,h4,h5,h6,h⟩:=h;exact⟨_,dX,e,sz,h,fun bx=>um (st:=⟨sl,⟨bx,tb.rw,tb.nx⟩⟩) ho hc ea et hel h1 h2 h3 h4 h5 h6 (.inr ⟨rfl,hy⟩) (by cases dX<;>exact hR)⟩
   ·exact h.elim
 ·exact h.elim
theorem Qa{α:Type}{i:Nat}:∀(a b:List (Nat×α)),lk i (a++b)=match lk i a with|some o=>some o|none=>lk i b
 |[],b=>rfl
 |(j,p)::a,b=>by
  simp only[List.cons_append,lk];split
  ·rfl
  ·exact Qa a b
theorem I5{α:Type}{i:Nat}:∀(s l:List (Nat×α)),lk i (b_ s l)=match lk i s with|some _=>none|none=>lk i l
 |[],l=>rfl
 |(j,p)::s,l=>by
  simp only[b_,cu,lk];split
  ·rfl
  ·exact I5 s l
theorem uJ{tb ts ts':Tb}{i:Nat}:lk i (tb.merge ts ts').bx=match lk i ts'.bx with|some o=>some o|none=>(match lk i ts.bx with|some _=>none|none=>lk i tb.bx):=by
 simp only[Tb.merge,Qa,I5];cases lk i ts'.bx<;>cases lk i ts.bx<;>rfl
theorem BH{α:Type}{bx cx:List (Nat×α)}:∀(l:List (Nat×α)),ay bx l->(∀i o,lk i l=some o->lk i bx=some o->lk i cx=some o)->(∀p∈l,lk p.1 l=some p.2\/True)->(∀p∈l,lk p.1 bx=lk p.1 cx)->ay cx l
 |[],_,_,_,_=>trivial
 |(i,o)::l,h,h2,h3,h4=>⟨by have:=h4 (i,o) (by simp);simp only at this;rw[<-this];exact h.1,BH l h.2 (fun j p e f=>by
  by_cases hij:∃q∈l,q.1=j
  ·obtain⟨q,hq,rfl⟩:=hij;rw[<-h4 q (by simp[hq])];exact f
  ·exfalso;have:∀(l:List (Nat×α)),(¬∃q∈l,q.1=j)->lk j l=none:=by
    intro l
    induction l with
    |nil=>intro _;rfl
    |cons q l ih=>intro hn;obtain⟨a,b⟩:=q;simp only[lk];rw[if_neg (fun e=>hn ⟨(a,b),by simp,e.symm⟩)];exact ih fun⟨q,hq,e⟩=>hn ⟨q,by simp[hq],e⟩
   rw[this l hij]at e;cases e) (fun _ _=> .inr trivial) (fun p hp=>h4 p (by simp[hp]))⟩
theorem Uh{cx:Cx}{md:Bool}{sl:Nat->AV}{tb:Tb}{o:Oper}{k:AV->Tb->Prop}:∀(c:Cls),CX P cx md o.op (bE sl) tb k c->∃x aM,k x aM/\Yk P cx sl tb o x aM c
 | .q,h=>by obtain⟨x,h1,h2⟩:=CN h;exact⟨x,tb,h1,Tb.dL _,h2⟩
 | .r l,h=>by
  unfold CX at h;simp only at h;split at h
  ·rename_i t x ho;unfold Bq at h;split at h
   ·rename_i id off hx;obtain⟨hid,h⟩:=h;unfold loadT at h;simp only at h;split at h
    ·rename_i ob ag s hl ha hs;split at h
     ·rename_i y hp;exact⟨y,tb,h,Tb.dL _,ob,by rw[<-hid];exact hl,fun t' hl'=>Oe (st:=⟨sl,t'⟩) ho hx (by rw[hid];exact hl') ha hs hp⟩
     ·exact h.elim
    ·exact h.elim
   ·exact h.elim
  ·exact h.elim
 | .s l keep,h=>by
  unfold CX at h;simp only at h;split at h
  ·rename_i t x y ho;unfold KM at h;split at h
   ·rename_i id off hx;obtain⟨hid,h⟩:=h;unfold storeT at h;split at h
    ·rename_i id2 off2 zs he hy;injection he with zY DL;subst zY;subst DL;split at h
     ·rename_i ob hl;obtain⟨h1,h2,h3,h4⟩:=h;subst hid;exact⟨.any,_,h4,ob,_,hl,Tb.dL _,h3,fun t' hl'=>Il (st:=⟨sl,t'⟩) ho hx hl' hy h1 h2⟩
     ·exact h.elim
    ·exact h.elim
   ·exact h.elim
  ·exact h.elim
 | .f ls,h=>by
  unfold CX at h;simp only at h;split at h
  ·rename_i c ho;split at h
   ·rename_i hc;obtain⟨ha,ht,h⟩:=h;obtain⟨x,dX,e,sz,h1,h2⟩:=Ug ho hc ha ht h;refine⟨x,_,h1,fun l _=>rfl,fun t t' g1 g2 g3 g4 g5 g6 g7=>?_⟩;refine(h2 t.bx).eqv ⟨g1.symm,g2.symm,fun _=>rfl⟩ ⟨?_,?_,fun i=>?_⟩
    ·rw[g4];rfl
    ·rw[g5];rfl
    ·show lk i t.bx=lk i t'.bx;by_cases hi:i∈ls.map cx.lb
     ·obtain⟨l,hl,rfl⟩:=List.mem_map.1 hi;exact(g7 l hl).symm
     ·rw[g6 i hi,g3 i hi];rfl
   ·rename_i f hc;unfold vF at h;split at h
    ·rename_i gf caps hf;obtain⟨ys,ts,r,ts',h1,h2,h3,h4,h5,h6,h7⟩:=h;refine⟨r,_,h7,fun l hl=>?_,fun t t' g1 g2 g3 g4 g5 g6 g7=>?_⟩
     ·rw[uJ,(h6 l hl).2,(h6 l hl).1]
     ·have hnot:∀p∈ts.bx,p.1∉ls.map cx.lb:=fun p hp hm=>by
       obtain⟨l,hl,e⟩:=List.mem_map.1 hm;have:=(h6 l hl).1;rw[e]at this;have key:∀(l:List (Nat×Ob)),p∈l->lk p.1 l≠none:=by
        intro l
        induction l with
        |nil=>intro h;cases h
        |cons q l ih=>
         intro h;obtain⟨a,b⟩:=q;simp only[lk];split
         ·simp
         ·rename_i hne;rcases List.mem_cons.1 h with h|h
          ·subst h;exact absurd rfl hne
          ·exact ih h
       exact key _ hp this
      have hsub:ay t.bx ts.bx:=BH ts.bx h3 (fun i o e f=>by
       by_cases hi:i∈ls.map cx.lb
       ·obtain⟨l,hl,e2⟩:=List.mem_map.1 hi;rw[<-e2,(h6 l hl).1]at e;cases e
       ·rw[g3 i hi];exact f) (fun _ _=> .inr trivial) (fun p hp=>(g3 p.1 (hnot p hp)).symm)
      refine(IQ (st:=⟨sl,t⟩) (ts:=ts) (ts':=ts') ho hc hf h1 h2 hsub (by rw[g1];exact h4) (h5.trans g2.symm)).eqv (Tb.dL _) ⟨?_,?_,fun i=>?_⟩
      ·rw[g4];simp only[Tb.merge,g1]
      ·rw[g5];rfl
      ·by_cases hi:i∈ls.map cx.lb
       ·obtain⟨l,hl,rfl⟩:=List.mem_map.1 hi;rw[uJ,(h6 l hl).2,(h6 l hl).1,g7 l hl]
       ·rw[g6 i hi,uJ,uJ,g3 i hi]
    ·exact h.elim
   ·exact h.elim
  ·exact h.elim
 | .w keep,h=>by
  obtain⟨x,aM,⟨h1,h2⟩,h3⟩:=xM (st:=⟨sl,tb⟩) (o:=o) h;exact⟨x,aM,h2,h1,h3⟩
theorem Hj{m:List (Nat×Cls)}{n:Nat}(h:vJ m ops n=true){i j:Nat}(hi:i<n)(hj:j<n)(hij:i<j)(hc:conf (eV m i) (eV m j)=true):dep ops i n j=true:=by
 unfold vJ at h;have h1:=List.all_eq_true.1 h i (List.mem_range.2 hi);have h2:=List.all_eq_true.1 h1 j (List.mem_range.2 hj);simpa[hij,hc]using h2
def VE(P:Program)(cx:Cx)(m:List (Nat×Cls))(ops:Array Oper)(K:AS->Prop):Nat->List Oper->AS->Prop
 |_,[],st=>K st
 |k,o::l,st=>∃x aM,nk P cx ops (eV m k) o x st.sl st.tb aM/\VE P cx m ops K (k+1) l ⟨eL st.sl o.dst x,aM⟩
theorem ng{cx:Cx}{m:List (Nat×Cls)}{K:AS->Prop}:∀(l:List Oper) (k:Nat) (st:AS),CW P cx m ops K k l st->VE P cx m ops K k l st
 |[],_,_,h=>h
 |o::l,k,st,h=>by
  unfold CW at h;split at h
  ·rename_i hw;obtain⟨x,aM,h1,h2⟩:=Uh _ h;exact⟨x,aM,.inl ⟨hw,h2⟩,ng l _ _ h1⟩
  ·rename_i hw;exact⟨PE,st.tb,.inr ⟨hw,rfl,rfl⟩,ng l _ _ h⟩
  ·exact h.elim
theorem sL{cx:Cx}{m:List (Nat×Cls)}{K K1:AS->Prop}(l2:List Oper):∀(l1:List Oper) (k:Nat) (st:AS),VE P cx m ops K1 k l1 st->(∀st',K1 st'->VE P cx m ops K (k+l1.length) l2 st')->VE P cx m ops K k (l1++l2) st
 |[],_,_,h,hk=>hk _ h
 |o::l1,k,st,⟨x,aM,h1,h2⟩,hk=>⟨x,aM,h1,sL l2 l1 (k+1) _ h2 fun st' h'=>by have:=hk st' h';rwa[List.length_cons,show k+(l1.length+1)=k+1+l1.length by omega]at this⟩
theorem zH{cx:Cx}{m:List (Nat×Cls)}{K:AS->Prop}(hch:vJ m ops ops.size=true):∀(l:List Oper) (k:Nat) (listed:Array Bool) (st:AS),(∀j,l[j]?=ops[k+j]?)->Down ops listed->(∀j,j<k->j<ops.size->listed.getD j true=true)->listed.size=ops.size->Region.lexFrom .any ops l.length k listed=true->VE P cx m ops K k l st->nh P cx m ops K l.length listed st
 |[],_,_,_,_,_,_,_,hB,h=>⟨by simpa[Region.lexFrom]using hB,h⟩
 |o::l,k,listed,st,hl,hD,hlt,hsz,hB,h=>by
  have h0:ops[k]?=some o:=by simpa using(hl 0).symm
  have hk:k<ops.size:=(Array.getElem?_eq_some_iff.1 h0).1;simp only[List.length_cons,Region.lexFrom,Bool.and_eq_true]at hB;obtain⟨⟨hr,hf⟩,hB'⟩:=hB;have hr':k∈Region.ready .any ops listed:=by simpa using hr
  obtain⟨x,aM,hy,hK⟩:=h;refine uD h0 ops.size l.length listed st aM hD (Region.free_spec h0 hf) (fun j oj hj hjk hun hc=>?_) hr' hy ?_
  ·have hjs:j<ops.size:=(Array.getElem?_eq_some_iff.1 hj).1;refine Hj hch hk hjs ?_ hc;rcases Nat.lt_or_ge j k with hlt'|hge
   ·rw[hlt j hlt' hjs]at hun;cases hun
   ·omega
  ·refine zH hch l (k+1) _ _ (fun j=>by have:=hl (j+1);simpa[Nat.add_assoc,Nat.add_comm 1 j]using this) (hD.set hr') (fun j hj hjs=>?_) (by simpa using hsz) hB' hK;by_cases hjk:k=j
   ·subst hjk;simp[hsz,hk]
   ·rw[getD_set_ne true hjk];exact hlt j (by omega) hjs
end
def rW(fr:Fr)(fC:Nat):Prop:=∀i,fC<=i->fr.g0.ob i=none/\fr.g0.rv i=none
def AS.le(fC:Nat)(st st':AS):Prop:=∀fr a w,rW fr fC->iq fr st a w->iq fr st' a w
theorem AS.le_refl(fC:Nat)(st:AS):st.le fC st:=fun _ _ _ _ h=>h
theorem AS.le.trans{fC:Nat}{a b c:AS}(h:a.le fC b)(k:b.le fC c):a.le fC c:=fun fr x w hf hs=>k fr x w hf (h fr x w hf hs)
def mOf(cls:List (Nat×List (Nat×Cls)))(id:Nat):List (Nat×Cls):=(lk id cls).getD []
def Cx.m(cx:Cx)(id:Nat):List (Nat×Cls):=mOf cx.cls id
def wkO(P:Program)(cx:Cx)(ops:Array Oper)(K:AS->Prop)(st:AS):Option Oper->Prop
 |some o=>match iK ops st.sl o with
  |some true=>kP P (cx.uB o.dst) o.op (bE st.sl) st.tb fun x aM=>K ⟨eL st.sl o.dst x,aM⟩
  |some false=>K (st.put o.dst PE)
  |none=>False
 |none=>False
def wkQ(P:Program)(ops:Array Oper)(K:AS->Prop)(st:AS):Option Oper->Prop
 |some o=>match iK ops st.sl o with
  |some true=>h_ P o.op (bE st.sl) fun x=>K ⟨eL st.sl o.dst x,st.tb⟩
  |some false=>K (st.put o.dst PE)
  |none=>False
 |none=>False
def eD(P:Program)(cx:Cx)(ops:Array Oper)(K:AS->Prop):OT->Bool->AS->Prop
 | .lf,b,st=>if b=true then K st else True
 | .br i sub KH,_,st=>wkO P cx ops (eD P cx ops K sub true) st ops[i]?/\eD P cx ops K KH false st
 | .one i sub,_,st=>wkQ P ops (eD P cx ops K sub true) st ops[i]?
def PF:OT->List Nat
 | .lf=>[]
 | .br i sub KH=>i::(PF sub++PF KH)
 | .one _ sub=>PF sub
def mT(t:OT):List (Nat×Cls):=(PF t).map fun i=>(i,.w [])
def isQ:Cls->Bool
 | .q=>true
 |_=>false
def lu(m:List (Nat×Cls))(ops:Array Oper):OT->Nat->Array Bool->List Nat->Bool
 | .lf,_,_,rs=>rs.isEmpty
 | .br _ _ _,0,_,_=>false
 | .br i sub KH,f+1,listed,rs=>match rs with
  |r::rs'=>decide (r=i)&&(lu m ops sub f (listed.setIfInBounds i true) (Region.ready .any ops (listed.setIfInBounds i true))&&lu m ops KH (f+1) listed rs')
  |[]=>false
 | .one _ _,0,_,_=>false
 | .one i sub,f+1,listed,rs=>decide (rs=Region.ready .any ops listed)&&(Region.ready .any ops listed).contains i&&Region.free .any ops listed i&&isQ (eV m i)&&lu m ops sub f (listed.setIfInBounds i true) (Region.ready .any ops (listed.setIfInBounds i true))
def Ze(P:Program)(cx:Cx)(m:List (Nat×Cls))(ops:Array Oper)(K:AS->Prop):List Nat->Nat->List Oper->AS->Prop
 |[],k,l,st=>∃K':AS->Prop,(∀st',K' st'->K st')/\CW P cx m ops K' k l st
 |n::ns,k,l,st=>∃K':AS->Prop,(∀st',K' st'->Ze P cx m ops K ns (k+(l.take n).length) (l.drop n) st')/\CW P cx m ops K' k (l.take n) st
def GR(P:Program)(cx:Cx)(m:List (Nat×Cls))(ops:Array Oper)(K:AS->Prop)(st:AS):Option OT->Prop
 |some .lf=>∃ns:List Nat,Ze P cx m ops K ns 0 ops.toList st
 |some (.br i s t)=>eD P cx ops K (.br i s t) true st
 |some (.one i s)=>eD P cx ops K (.one i s) true st
 |none=>CW P cx m ops K 0 ops.toList st
def afl(cls:List (Nat×List (Nat×Cls)))(id:Nat)(ops:Array Oper):Option OT->Bool
 |some (.br i s t)=>lu (mT (.br i s t)) ops (.br i s t) ops.size (Array.replicate ops.size false) (Region.ready .any ops (Array.replicate ops.size false))
 |some (.one i s)=>lu (mT (.one i s)) ops (.one i s) ops.size (Array.replicate ops.size false) (Region.ready .any ops (Array.replicate ops.size false))
 |some .lf=>Region.lexB .any ops&&vJ (mOf cls id) ops ops.size
 |none=>Region.lexB .any ops&&vJ (mOf cls id) ops ops.size
section
variable{P:Program}{ops:Array Oper}
theorem wT{cx:Cx}{m:List (Nat×Cls)}{K:AS->Prop}:∀(ns:List Nat) (k:Nat) (l:List Oper) (st:AS),Ze P cx m ops K ns k l st->VE P cx m ops K k l st
 |[],k,l,st,⟨K',hK,h⟩=>by
  have:=sL (P:=P) (ops:=ops) (cx:=cx) (m:=m) (K:=K) [] l k st (ng l k st h) (fun st' h'=>hK st' h');rwa[List.append_nil]at this
 |n::ns,k,l,st,⟨K',hK,h⟩=>by
  have:=sL (P:=P) (ops:=ops) (cx:=cx) (m:=m) (K:=K) (l.drop n) (l.take n) k st (ng _ k st h) (fun st' h'=>wT ns _ _ st' (hK st' h'));rwa[List.take_append_drop]at this
end
section
variable{P:Program}{fr:Fr}{ops:Array Oper}
theorem G2{cx:Cx}{m:List (Nat×Cls)}{i:Nat}{st:AS}{K K':AS->Prop}(hm:eV m i= .w [])(hK:∀st,K st->K' st)(h:wkO P cx ops K st ops[i]?):PG P cx m ops i K' st:=by
 unfold PG;cases ho:ops[i]? with
 |none=>rw[ho]at h;exact h.elim
 |some o=>
  rw[ho]at h;unfold wkO at h;simp only at h⊢;split at h
  ·rename_i hw;obtain⟨x,aM,h1,h2⟩:=xM h;refine⟨x,aM,.inl ⟨hw,?_⟩,hK _ h1⟩;rw[hm];exact⟨fun l hl=>by simp at hl,h2⟩
  ·rename_i hw;exact⟨PE,st.tb,.inr ⟨hw,rfl,rfl⟩,hK _ h⟩
  ·exact h.elim
theorem IB{cx:Cx}{m:List (Nat×Cls)}{K:AS->Prop}:∀(t:OT),(∀i∈PF t,eV m i= .w [])->(∀(f:Nat) (listed:Array Bool) (st:AS),Down ops listed->lu m ops t f listed (Region.ready .any ops listed)=true->eD P cx ops K t true st->nh P cx m ops K f listed st)/\(∀(f:Nat) (listed:Array Bool) (rs:List Nat) (b:Bool) (st:AS),Down ops listed->(∀i∈rs,i∈Region.ready .any ops listed)->lu m ops t (f+1) listed rs=true->eD P cx ops K t b st->∀i∈rs,PG P cx m ops i (nh P cx m ops K f (listed.setIfInBounds i true)) st)
 | .lf,_=>by
  refine⟨fun f listed st hD hB h=>?_,fun f listed rs b st hD pY hB h i hi=>?_⟩
  ·have h0:Region.ready .any ops listed=[]:=by simpa[lu]using hB
   have hk:K st:=by simpa[eD]using h
   cases f with
   |zero=>exact⟨h0,hk⟩
   |succ f=>exact⟨fun _=>hk,fun i hi=>by rw[h0]at hi;cases hi⟩
  ·have h0:rs=[]:=by simpa[lu]using hB
   subst h0;cases hi
 | .br j sub KH,hm=>by
  have key:∀(f:Nat) (listed:Array Bool) (rs:List Nat) (b:Bool) (st:AS),Down ops listed->(∀i∈rs,i∈Region.ready .any ops listed)->lu m ops (.br j sub KH) (f+1) listed rs=true->eD P cx ops K (.br j sub KH) b st->∀i∈rs,PG P cx m ops i (nh P cx m ops K f (listed.setIfInBounds i true)) st:=by
   intro f listed rs b st hD pY hB h i hi;unfold lu at hB;cases rs with
   |nil=>cases hi
   |cons r rs'=>
    simp only[Bool.and_eq_true,decide_eq_true_eq]at hB;obtain⟨rfl,h1,h2⟩:=hB;unfold eD at h;rcases List.mem_cons.1 hi with rfl|hi
    ·exact G2 (hm _ (by simp[PF])) (fun st h'=>(IB sub fun i hi=>hm i (by simp[PF,hi])).1 f _ st (hD.set (pY _ (by simp))) h1 h') h.1
    ·exact(IB KH fun i hi=>hm i (by simp[PF,hi])).2 f listed rs' false st hD (fun i hi=>pY i (by simp[hi])) h2 h.2 i hi
  refine⟨fun f listed st hD hB h=>?_,key⟩;cases f with
  |zero=>unfold lu at hB;cases hB
  |succ f=>
   refine⟨fun h0=>?_,key f listed _ true st hD (fun i hi=>hi) hB h⟩;rw[h0]at hB;unfold lu at hB;cases hB
 | .one j sub,hm=>by
  have key:∀(f:Nat) (listed:Array Bool) (rs:List Nat) (b:Bool) (st:AS),Down ops listed->lu m ops (.one j sub) f listed rs=true->eD P cx ops K (.one j sub) b st->rs=Region.ready .any ops listed/\nh P cx m ops K f listed st:=by
   intro f listed rs b st hD hB h;cases f with
   |zero=>unfold lu at hB;cases hB
   |succ f=>
    unfold lu at hB;simp only[Bool.and_eq_true,decide_eq_true_eq]at hB;obtain⟨⟨⟨⟨h1,h2⟩,h3⟩,h4⟩,h5⟩:=hB;have hr:j∈Region.ready .any ops listed:=by simpa using h2
    have hq:eV m j= .q:=by
     cases hc:eV m j with
     |q=>rfl
     |_=>rw[hc]at h4;cases h4
    refine⟨h1,?_⟩;unfold eD at h;cases ho:ops[j]? with
    |none=>rw[ho]at h;exact h.elim
    |some o=>
     rw[ho]at h;unfold wkQ at h;simp only at h;have fin:∀{x:AV},nk P cx ops (eV m j) o x st.sl st.tb st.tb->eD P cx ops K sub true ⟨eL st.sl o.dst x,st.tb⟩->nh P cx m ops K (f+1) listed st:=fun hy hk=>
      uD ho ops.size f listed st _ hD (Region.free_spec ho h3) (fun k ok hk hkj hun hc=>by rw[hq]at hc;simp[conf]at hc) hr hy ((IB sub fun i hi=>hm i (by simpa[PF]using hi)).1 f _ _ (hD.set hr) h5 hk)
     split at h
     ·rename_i hw;obtain⟨x,h6,h7⟩:=CN h;exact fin (.inl ⟨hw,by rw[hq];exact⟨Tb.dL _,h7⟩⟩) h6
     ·rename_i hw;exact fin (x:=PE) (.inr ⟨hw,rfl,rfl⟩) h
     ·exact h.elim
  refine⟨fun f listed st hD hB h=>(key f listed _ true st hD hB h).2,fun f listed rs b st hD pY hB h i hi=>?_⟩;obtain⟨e,hA⟩:=key (f+1) listed rs b st hD hB h;exact hA.2 i (e▸hi)
theorem ako(t:OT):∀i∈PF t,eV (mT t) i= .w []:=by
 intro i hi;unfold eV mT;generalize PF t=L at hi⊢
 induction L with
 |nil=>cases hi
 |cons j l ih=>
  simp only[List.map_cons,lk];split
  ·rfl
  ·rename_i hne;rcases List.mem_cons.1 hi with rfl|hi
   ·exact absurd rfl hne
   ·exact ih hi
theorem zE{cx:Cx}{K:AS->Prop}{Q:Exit->Act->World->Prop}(hd:ops.all (nM fr.n)=true)(hQ:∀st a w,K st->iq fr st a w->Q .normal a w)(t:OT)(f:Nat)(listed:Array Bool)(st:AS)(hD:Down ops listed)(hB:lu (mT t) ops t f listed (Region.ready .any ops listed)=true)(h:eD P cx ops K t true st)(a:Act)(w:World)(hs:iq fr st a w):wpAny P .any ops Q f listed a w:=sM hd hQ _ _ _ ((IB t (ako t)).1 f listed st hD hB h) a w hs
end
def codeOk(cls:List (Nat×List (Nat×Cls)))(ot:List (Nat×OT))(n:Nat):Code->Bool
 | .region id ops d=>ops.all (nM n)&&(!d||afl cls id ops (lk id ot))
 | .seq a b=>codeOk cls ot n a&&codeOk cls ot n b
 | .cond _ a b=>codeOk cls ot n a&&codeOk cls ot n b
 | .block _ c=>codeOk cls ot n c
 | .loop c=>codeOk cls ot n c
 |_=>true
def Ym:Option OT->Bool
 |some .lf=>true
 |_=>false
def rgC(P:Program)(cx:Cx)(ops:Array Oper)(K:AS->Prop):List Nat->List Oper->AS->Prop
 |[],l,st=>∃K':AS->Prop,(∀st',K' st'->K st')/\z7 P cx ops K' l st
 |n::ns,l,st=>∃K':AS->Prop,(∀st',K' st'->rgC P cx ops K ns (l.drop n) st')/\z7 P cx ops K' (l.take n) st
def Gm(P:Program)(cx:Cx)(ops:Array Oper)(K:AS->Prop)(st:AS):Bool->Prop
 |true=>∃ns:List Nat,rgC P cx ops K ns ops.toList st
 |false=>z7 P cx ops K ops.toList st
section
variable{P:Program}{fr:Fr}{ops:Array Oper}
theorem vK{cx:Cx}{K:AS->Prop}{Q:Exit->Act->World->Prop}(l2:List Oper)(hQ:∀st a w,K st->iq fr st a w->wpList P ops Q l2 a w):∀(l:List Oper) (st:AS),l.all (nM fr.n)=true->z7 P cx ops K l st->∀a w,iq fr st a w->wpList P ops Q (l++l2) a w
 |[],st,_,h,a,w,hs=>hQ st a w h hs
 |o::l,st,hd,h,a,w,hs=>by
  simp only[List.all_cons,Bool.and_eq_true]at hd;unfold z7 at h;have Zf:=hs;obtain⟨g,_,_,h2,_,_⟩:=Zf;rw[List.cons_append];split at h
  ·rename_i hw;have hw:=mP h2 hw;unfold wpList;rw[if_pos hw];obtain⟨x,aM,hx,hy⟩:=xM h;exact .inl (zF hs hd.1 hy fun a' w' hs'=>vK l2 hQ l _ hd.2 hx a' w' hs')
  ·rename_i hw;have hw:=mP h2 hw;unfold wpList;rw[if_neg (by rw[hw];exact Bool.false_ne_true)];exact vK l2 hQ l _ hd.2 h _ _ (zG hs hd.1)
  ·exact h.elim
theorem vn{cx:Cx}{K:AS->Prop}{Q:Exit->Act->World->Prop}(hQ:∀st a w,K st->iq fr st a w->Q .normal a w):∀(ns:List Nat) (l:List Oper) (st:AS),l.all (nM fr.n)=true->rgC P cx ops K ns l st->∀a w,iq fr st a w->wpList P ops Q l a w
 |[],l,st,hd,h,a,w,hs=>by
  obtain⟨K',hK,h⟩:=h;exact qx (K:=K') (fun st a w h1 h2=>hQ st a w (hK st h1) h2) l st hd h a w hs
 |n::ns,l,st,hd,h,a,w,hs=>by
  obtain⟨K',hK,h⟩:=h;have h1:(l.take n).all (nM fr.n)=true:=List.all_eq_true.2 fun x hx=>List.all_eq_true.1 hd x (jH hx);have h2:(l.drop n).all (nM fr.n)=true:=List.all_eq_true.2 fun x hx=>List.all_eq_true.1 hd x (List.mem_of_mem_drop hx);have:=vK (Q:=Q) (l.drop n) (fun st a w h3 h4=>vn hQ ns (l.drop n) st h2 (hK st h3) a w h4) (l.take n) st h1 h a w hs;rwa[List.take_append_drop]at this
end
def aw(P:Program)(cx:Cx):Code->AS->(Exit->AS->Prop)->Prop
 | .skip,st,Q=>Q .normal st
 | .region id ops d,st,Q=>match d with
  |true=>GR P cx (cx.m id) ops (Q .normal) st (lk id cx.ot)
  |false=>Gm P cx ops (Q .normal) st (Ym (lk id cx.ot))
 | .seq a b,st,Q=>aw P cx a st fun e st'=>match e with
  | .normal=>aw P cx b st' Q
  |e=>Q e st'
 | .cond c a b,st,Q=>match bE st.sl c with
  | .p (.sc (.bool t))=>if t=true then aw P cx a st Q else aw P cx b st Q
  |_=>False
 | .block id c,st,Q=>aw P cx c st fun e st'=>match e with
  | .exit j=>if j=id then Q .normal st' else Q (.exit j) st'
  |e=>Q e st'
 | .loop c,st,Q=>∃(I:Nat->AS->Prop) (H:Nat->Exit->AS->Prop) (n0:Nat),(∃ND,st.le cx.fC ND/\I n0 ND)/\(∀n st1,I n st1->aw P cx c st1 (H n))/\∀n e st',H n e st'->match e with
  | .normal=>∃n' TV,n'<n/\st'.le cx.fC TV/\I n' TV
  |e=>Q e st'
 | .exit id,st,Q=>Q (.exit id) st
 | .ret,st,Q=>Q .ret st
 |_,_,_=>False
section
variable{P:Program}{fr:Fr}
def Post(fr:Fr)(Q:Exit->AS->Prop):Exit->Act->World->Prop:=fun e a w=>∃st,Q e st/\iq fr st a w
theorem gE(hm:P.follows .mixedOrders=true){cx:Cx}(hfr:rW fr cx.fC):∀(c:Code) (st:AS) (Q:Exit->AS->Prop),codeOk cx.cls cx.ot fr.n c=true->aw P cx c st Q->∀a w,iq fr st a w->c.wp P (Post fr Q) a w
 | .skip,st,Q,_,h,a,w,hs=>wp_skip ⟨st,h,hs⟩
 | .region id ops d,st,Q,hk,h,a,w,hs=>by
  simp only[codeOk,Bool.and_eq_true,Bool.or_eq_true,Bool.not_eq_true']at hk;cases d with
  |true=>
   simp only[aw]at h;have hR:afl cx.cls id ops (lk id cx.ot)=true:=by simpa using hk.2
   have hs':iq fr st a {w with drawn:=w.drawn+1}:=by
    obtain⟨g,h0,h1,h2,h3,h4⟩:=hs;exact⟨g,h0,h1.drew,h2,h3,h4⟩
   have key:(Region.lexB .any ops&&vJ (mOf cx.cls id) ops ops.size)=true->VE P cx (cx.m id) ops (Q .normal) 0 ops.toList st->(Code.region id ops true).wp P (Post fr Q) a w:=by
    intro hR h;refine wp_region_any hm ?_;simp only[Bool.and_eq_true]at hR;obtain⟨hB,hC⟩:=hR;simp only[Region.lexB,Bool.and_eq_true]at hB;have hA:=zH (P:=P) (ops:=ops) hC ops.toList 0 (Array.replicate ops.size false) st (by simp) (fun j oj hj hl=>by
     simp only[Array.getD_eq_getD_getElem?]at hl;rw[Array.getElem?_replicate]at hl;split at hl<;>simp at hl) (fun j hj _=>by omega) (by simp) (by simpa using hB.2) h
    have:=sM (Q:=Post fr Q) hk.1 (fun st a w h1 h2=>⟨st,h1,h2⟩) _ _ _ hA a _ hs';simpa using this
   have hD0:Down ops (Array.replicate ops.size false):=fun j oj hj hl=>by
    simp only[Array.getD_eq_getD_getElem?]at hl;rw[Array.getElem?_replicate]at hl;split at hl<;>simp at hl
   cases ht:lk id cx.ot with
   |some t=>
    rw[ht]at h hR;cases t with
    |lf=>
     obtain⟨ns,h⟩:=h;exact key hR (wT ns 0 _ _ h)
    |br i s t=>
     refine wp_region_any hm ?_;exact zE (Q:=Post fr Q) hk.1 (fun st a w h1 h2=>⟨st,h1,h2⟩) (.br i s t) _ _ st hD0 hR h a _ hs'
    |one i s=>
     refine wp_region_any hm ?_;exact zE (Q:=Post fr Q) hk.1 (fun st a w h1 h2=>⟨st,h1,h2⟩) (.one i s) _ _ st hD0 hR h a _ hs'
   |none=>
    rw[ht]at h hR;exact key hR (ng _ _ _ h)
  |false=>
   simp only[aw]at h;unfold Gm at h;split at h
   ·obtain⟨ns,h⟩:=h;exact wp_region_list (vn (Q:=Post fr Q) (fun st a w h1 h2=>⟨st,h1,h2⟩) ns _ st (by simpa using hk.1) h a w hs)
   ·exact wp_region_list (qx (Q:=Post fr Q) (fun st a w h1 h2=>⟨st,h1,h2⟩) _ st (by simpa using hk.1) h a w hs)
 | .seq x y,st,Q,hk,h,a,w,hs=>by
  simp only[codeOk,Bool.and_eq_true]at hk;simp only[aw]at h;refine wp_seq (wp_mono (gE hm hfr x st _ hk.1 h a w hs) ?_);rintro e a' w' ⟨st',hq,hs'⟩;cases e with
  |normal=>exact gE hm hfr y st' Q hk.2 hq a' w' hs'
  |_=>exact⟨st',hq,hs'⟩
 | .cond c x y,st,Q,hk,h,a,w,hs=>by
  simp only[codeOk,Bool.and_eq_true]at hk;simp only[aw]at h;have Zf:=hs;obtain⟨g,_,_,h2,_,_⟩:=Zf;split at h
  ·rename_i t hc;have hv:a.eval c= .bool t:=by
    have:=iZ (a:=a) c (fun t _=>h2 t);rw[hc]at this;exact bF this
   cases t with
   |true=>exact wp_cond_true hv (gE hm hfr x st Q hk.1 (by simpa using h) a w hs)
   |false=>exact wp_cond_false hv (gE hm hfr y st Q hk.2 (by simpa using h) a w hs)
  ·exact h.elim
 | .block id c,st,Q,hk,h,a,w,hs=>by
  simp only[codeOk]at hk;simp only[aw]at h;refine wp_block (wp_mono (gE hm hfr c st _ hk h a w hs) ?_);rintro e a' w' ⟨st',hq,hs'⟩;cases e with
  |exit j=>
   simp only[Exit.inBlock]at hq⊢;split
   ·rename_i e;rw[if_pos e]at hq;exact⟨st',hq,hs'⟩
   ·rename_i e;rw[if_neg e]at hq;exact⟨st',hq,hs'⟩
  |_=>exact⟨st',hq,hs'⟩
 | .loop c,st,Q,hk,h,a,w,hs=>by
  simp only[codeOk]at hk;simp only[aw]at h;obtain⟨I,H,n0,⟨ND,hle,hI⟩,Zg,hH⟩:=h;refine wp_loop_ghost (fun k a w=>∃st,I k st/\iq fr st a w) n0 ⟨ND,hI,hle _ _ _ hfr hs⟩ ?_;rintro k a w ⟨st1,hI1,hs1⟩;refine wp_mono (gE hm hfr c st1 _ hk (Zg k st1 hI1) a w hs1) ?_;rintro e a' w' ⟨st',hq,hs'⟩;have hq:=hH _ _ _ hq;cases e with
  |normal=>obtain⟨n',TV,h1,h2,h3⟩:=hq;exact⟨n',h1,TV,h3,h2 _ _ _ hfr hs'⟩
  |_=>exact⟨st',hq,hs'⟩
 | .exit id,st,Q,_,h,a,w,hs=>wp_exit ⟨st,h,hs⟩
 | .ret,st,Q,_,h,a,w,hs=>wp_ret ⟨st,h,hs⟩
 | .rangeFunc _ _ _ _,_,_,_,h,_,_,_=>h.elim
 | .scope _,_,_,_,h,_,_,_=>h.elim
 | .label _,_,_,_,h,_,_,_=>h.elim
 | .goto _,_,_,_,h,_,_,_=>h.elim
 | .refuse _,_,_,_,h,_,_,_=>h.elim
def jk:List AV->Nat->Nat->AV
 |[],_=>fun _=> .any
 |x::l,k=>u9 (jk l (k+1)) k x
def me(xs:List AV)(tb:Tb):AS:=⟨jk xs 0,tb⟩
def kO(P:Program)(st:AS):List ResultVar->Option (List AV)
 |[]=>some []
 | .tmp t::l=>match kO P st l with
  |some zs=>some (st.sl t::zs)
  |none=>none
 | .cell t ty::l=>match Br (st.sl t) ty,kO P st l with
  |some z,some zs=>some (z::zs)
  |_,_=>none
where Br:AV->TypeId->Option AV
 | .obj id off,ty=>match lk id st.tb.bx,bL P ty,aO P ty with
  |some ob,some ag,some s=>ku off s ag ob.xs
  |_,_,_=>none
 | .p (.ref x),ty=>if fits P ty x=true then some (.p x)else none
 |_,_=>none
def vX:List AV->AV
 |[x]=>x
 |l=> .agg true l
def Bd:List PC->PC
 |[x]=>x
 |l=> .agg true l
def vu(P:Program)(R:List AV->Tb->Prop)(tb:Tb):Option (List AV)->Prop
 |some zs=>R zs tb
 |none=>False
def tP(P:Program)(fn:Func)(R:List AV->Tb->Prop):Exit->AS->Prop
 | .normal,st=>vu P R st.tb (kO P st fn.results.toList)
 | .ret,st=>vu P R st.tb (kO P st fn.results.toList)
 |_,_=>False
theorem m9{g:G}:∀(xs:List AV) (vs:List Value) (k:Nat),aJ g vs xs->∀t,aX g ((vs[t-k]?).getD undef) (if k<=t then jk xs k t else .any)
 |[],_,k,_,t=>by
  have:(if k<=t then jk [] k t else AV.any)= .any:=by split<;>rfl
  rw[this];exact .any _
 |x::xs,_,k,.cons (v:=v) (vs:=vs) h hs,t=>by
  by_cases hk:k<=t
  ·rw[if_pos hk];simp only[jk,u9];by_cases e:t=k
   ·subst e;simp;exact h
   ·rw[if_neg e];have:=m9 xs vs (k+1) hs t;rw[if_pos (by omega)]at this;rw[show t-k=(t-(k+1))+1 by omega,List.getElem?_cons_succ];exact this
  ·rw[if_neg hk];exact .any _
theorem o4:∀(xs:List AV) (k t:Nat),k+xs.length<=t->jk xs k t= .any:=by
 intro xs
 induction xs with
 |nil=>intro k t _;rfl
 |cons x xs ih=>intro k t hk;simp only[List.length_cons]at hk;simp only[jk,u9];rw[if_neg (by omega),ih (k+1) t (by omega)]
def wI:List Value->Value
 |[v]=>v
 |l=> .tuple l.toArray
def PI(tmps:Array Value):ResultVar->Sem Value
 | .tmp t=>pure (tmps.getD t undef)
 | .cell a t=>do loadVar t (<-asAddr (tmps.getD a undef))
theorem nV{f:ResultVar->Sem Value}{r:ResultVar}{rs:List ResultVar}{v:Value}{vs:List Value}{w:World}(h1:(f r).run P w= .ok v w)(h2:(rs.mapM f).run P w= .ok vs w):((r::rs).mapM f).run P w= .ok (v::vs) w:=by
 simp only[List.mapM_cons,Sem.run_bind,Sem.run_pure,h1,h2,Result.andThen_ok]
theorem xq{w0:World}{M0:Mem}{F:Nat->Prop}{tb:Tb}{g:G}{w:World}(hw:aQ w0 M0 F tb g w){id off b c s:Nat}{ag:Bool}{ob:Ob}{t:TypeId}{y:AV}(he:g.ob id=some (b,c))(hl:lk id tb.bx=some ob)(ht:bL P t=some ag)(hs:aO P t=some s)(hp:ku off s ag ob.xs=some y):∃u,(loadVar t ⟨b,off,none⟩).run P w= .ok u w/\aX g u y:=by
 have yZ:=hw.boxes id ob hl;by_cases hne:ob.xs=[]
 ·unfold ku at hp;rw[hne]at hp;cases ag with
  |true=>
   simp only[if_true]at hp;split at hp
   ·rename_i hle;injection hp with hp;subst hp;simp only[List.length_nil,Nat.le_zero]at hle;obtain⟨rfl,rfl⟩:off=0/\s=0:=by omega
    exact⟨.agg #[],by simp[loadVar,gJ ht,run_sizeOf hs,loadCells,loadCellsFrom],by simpa using aX.agg (g:=g) (vs:=[]) (xs:=[]) .nil (by simp)⟩
   ·cases hp
  |false=>simp at hp
 have g_:=yZ.pos he hne;obtain⟨cur,f2,f3,⟨tt,fz,f4,fo⟩,f5,f6,f7,f8,f9⟩:=yZ.real he g_;generalize b=b' at*;have cell:∀j u,cur[j]?=some u->w.cell? ⟨b',j,none⟩=some u:=fun j u e=>by unfold World.cell?;rw[f4];simpa using e
 have hlen:=f8.length;unfold ku at hp;cases ag with
 |true=>
  simp only[if_true]at hp;split at hp
  ·rename_i hle;injection hp with hp;subst hp;have iB:off+s<=cur.toList.length:=by simp;omega
   have hls:((cur.toList.drop off).take s).length=s:=by rw[List.length_take,List.length_drop];omega
   have hrun:=run_loadCells_list (P:=P) w ⟨b',off,none⟩ ((cur.toList.drop off).take s) (fun j u e=>by
    rw[Addr.add_lit];rw[List.getElem?_take]at e;split at e
    ·rw[List.getElem?_drop]at e;exact cell _ _ (by simpa using e)
    ·cases e)
   rw[hls]at hrun;have e3:((cur.toList.take ob.xs.length).drop off).take s=(cur.toList.drop off).take s:=by
    rw[List.drop_take,List.take_take,Nat.min_eq_left (by omega)]
   have Jy:aJ g ((cur.toList.drop off).take s) ((ob.xs.drop off).take s):=by
    have:=(f8.drop off).take s;rw[e3]at this;exact this
   refine⟨.agg ((cur.toList.drop off).take s).toArray,?_,.agg Jy (fun u hu=>f9 u ?_)⟩
   ·simp[loadVar,gJ ht,run_sizeOf hs,hrun]
   ·rw[<-e3]at hu;exact jH (List.mem_of_mem_drop (jH hu))
  ·cases hp
 |false=>
  simp only[Bool.false_eq_true,if_false]at hp;split at hp
  ·obtain⟨u,hu,hr⟩:=f8.get hp;have LQ:cur[off]?=some u:=by
    rw[List.getElem?_take]at hu;split at hu
    ·simpa using hu
    ·cases hu
   exact⟨u,by simp[loadVar,gJ ht,load,Sem.run,cell _ _ LQ],hr⟩
  ·cases hp
theorem ur{w0:World}{M0:Mem}{F:Nat->Prop}{st:AS}{g:G}{a:Act}{w:World}(hs:JE st.sl g a)(hw:aQ w0 M0 F st.tb g w):∀(rs:List ResultVar) (zs:List AV),kO P st rs=some zs->∃vs,(rs.mapM (PI a.tmps)).run P w= .ok vs w/\aJ g vs zs
 |[],zs,h=>by simp only[kO,Option.some.injEq]at h;subst h;exact⟨[],by simp,.nil⟩
 | .tmp t::rs,zs,h=>by
  simp only[kO]at h;split at h
  ·rename_i zs' hz;injection h with h;subst h;obtain⟨vs,h1,h2⟩:=ur hs hw rs zs' hz;exact⟨a.tmps.getD t undef::vs,nV rfl h1,.cons (hs t) h2⟩
  ·cases h
 | .cell ad ty::rs,zs,h=>by
  simp only[kO]at h;split at h
  ·rename_i z zs' hc hz;injection h with h;subst h;obtain⟨vs,h1,h2⟩:=ur hs hw rs zs' hz;have lZ:=hs ad;unfold kO.Br at hc;split at hc
   ·rename_i id off heq;rw[heq]at lZ;generalize hv:a.tmps.getD ad undef=v at lZ;cases lZ with
    |obj e=>
     split at hc
     ·rename_i ob ag s hl ha hs';obtain⟨u,hu,hr⟩:=xq (P:=P) hw e hl ha hs' hc;exact⟨u::vs,nV (by simp only[PI,hv,asAddr,Sem.run_bind,Sem.run_pure,Result.andThen_ok,hu]) h1,.cons hr h2⟩
     ·cases hc
   ·rename_i x heq;rw[heq]at lZ;split at hc
    ·rename_i hf;injection hc with hc;subst hc;have:=aZ lZ;generalize hv:a.tmps.getD ad undef=v at this;cases this with
     |ref hat hru=>
      rename_i u;have hl:=pJ (P:=P) hf hru hat hw.holds;exact⟨u::vs,nV (by simp only[PI,hv,asAddr,Sem.run_bind,Sem.run_pure,Result.andThen_ok,hl]) h1,.cons (.p hru) h2⟩
    ·cases hc
   ·cases hc
  ·cases h
theorem oM{fn:Func}{a:Act}{w:World}{vs:List Value}(h:(fn.results.toList.mapM (PI a.tmps)).run P w= .ok vs w):(results fn a.tmps).run P w= .ok (wI vs) w:=by
 have e:results fn a.tmps=(do
  let vs<-fn.results.mapM (PI a.tmps)
  pure (if h:vs.size=1 then vs[0]else .tuple vs)):=by
  unfold results;congr 1
 rw[e,Array.mapM_eq_mapM_toList,Sem.run_bind,Sem.run_map,h];simp only[Result.andThen_ok,Sem.run_pure];congr 1
 match vs with
 |[]=>rfl
 |[v]=>rfl
 |_::_::_=>simp[wI]
theorem ow{g:G}{vs:List Value}{zs:List AV}(h:aJ g vs zs):aX g (wI vs) (vX zs):=by
 cases h with
 |nil=>exact .qi .nil
 |cons h1 hs=>
  cases hs with
  |nil=>exact h1
  |cons h2 hs=>exact .qi (.cons h1 (.cons h2 hs))
theorem vL{f:FuncId}{fn:Func}{c:Code}{xs:List AV}{tb:Tb}{cx:Cx}{R:List AV->Tb->Prop}(hm:P.follows .mixedOrders=true)(hf:P.funcs[f]?=some fn)(hb:fn.body=some c)(hk:codeOk cx.cls cx.ot fn.ntmps c=true)(hx:xs.length<=fn.ntmps)(hcx:cx.fC=tb.nx)(h:aw P cx c (me xs tb) (tP P fn R)){g:G}{w:World}{vs:List Value}{F:Nat->Prop}(hw:aQ w g.M F tb g w)(hvs:aJ g vs xs):Calls P f vs.toArray w fun e w'=>∃us zs g' aM,e= .returned (wI us)/\g.le g'/\aQ w g.M F aM g' w'/\aJ g' us zs/\R zs aM:=by
 have hlen:=hvs.length;refine calls_of_wp hf hb ?_
 let fr:Fr:=⟨w,g.M,F,g,fn.ntmps,[]⟩
 have hfr:rW fr cx.fC:=fun i hi=>hw.fresh i (by omega);have oE:iq fr (me xs tb) {tmps:=vs.toArray++Array.replicate (fn.ntmps-vs.toArray.size) undef,defers:=[]} w:=by
  refine⟨g,G.le_refl g,hw,?_,?_,rfl⟩
  ·intro t;have:=m9 (g:=g) xs vs 0 hvs t;simp only[Nat.sub_zero,Nat.zero_le,if_true]at this;show aX _ _ (jk xs 0 t);by_cases ht:t<vs.length
   ·have e:(vs.toArray++Array.replicate (fn.ntmps-vs.toArray.size) undef).getD t undef=(vs[t]?).getD undef:=by
     simp[Array.getElem?_append,ht]
    rw[e];exact this
   ·rw[o4 xs 0 t (by omega)];exact .any _
  ·simp[fr];omega
 refine wp_mono (gE (fr:=fr) hm hfr c _ _ hk h _ w oE) ?_;rintro e a w' ⟨st,hq,hs⟩;obtain⟨g',h0,h1,h2,h3,h4⟩:=hs;have fin:vu P R st.tb (kO P st fn.results.toList)->a.defers=[]/\∃v,(results fn a.tmps).run P w'= .ok v w'/\∃us zs g' aM,Ending.returned v= .returned (wI us)/\g.le g'/\aQ w g.M F aM g' w'/\aJ g' us zs/\R zs aM:=by
  intro hres;unfold vu at hres;split at hres
  ·rename_i zs hz;obtain⟨us,h5,h6⟩:=ur h2 h1 _ _ hz;exact⟨h4,_,oM h5,us,zs,g',st.tb,rfl,h0,h1,h6,hres⟩
  ·exact hres.elim
 cases e with
 |normal=>exact fin hq
 |ret=>exact fin hq
 |_=>exact hq.elim
end
section
variable{P:Program}
theorem toAll_p{g:G}{us:List Value}{zs:List AV}{ys:List PC}(h:aJ g us zs)(k:toAll zs (ys.map .p)):cJ g.M us ys:=by
 have:=fJ _ h k;clear h k
 induction ys generalizing us with
 |nil=>cases this;exact .nil
 |cons y ys ih=>cases this with|cons h hs=>exact .cons (aZ h) (ih hs)
theorem Be{M:Mem}{vs:List Value}{ys:List PC}(h:cJ M vs ys):gO M (wI vs) (Bd ys):=by
 cases h with
 |nil=>exact .qi .nil
 |cons h1 hs=>
  cases hs with
  |nil=>exact h1
  |cons h2 hs=>exact .qi (.cons h1 (.cons h2 hs))
def Em(ys:List PC):List AV->Tb->Prop:=fun zs _=>toAll zs (ys.map .p)
theorem zm{f:FuncId}{fn:Func}{c:Code}{xs ys:List PC}{r:PC}(md:List Nat)(cls:List (Nat×List (Nat×Cls)))(lab:List (Nat×Nat))(hm:P.follows .mixedOrders=true)(hf:P.funcs[f]?=some fn)(hb:fn.body=some c)(hnm:(fn.name=="runtime.NumGoroutine")=false)(hk:codeOk cls [] fn.ntmps c=true)(hx:xs.length<=fn.ntmps)(hr:r=Bd ys)(h:aw P ⟨md,cls,lab,0,[]⟩ c (me (xs.map .p) ⟨[],[],0⟩) (tP P fn (Em ys))):aq P f xs r:=by
 refine⟨⟨fn,hf,hnm,by rw[hb];rfl⟩,fun M w vs hH hvs=>?_⟩;have hw:aQ w M (fun _=>False) ⟨[],[],0⟩ ⟨M,fun _=>none,fun _=>none⟩ w:=by
  refine⟨hH,sA.refl _ _,fun _ _ _=>rfl,Mem.le_refl _,?_,?_,?_,?_,?_,?_⟩
  ·intro i o e;simp[lk]at e
  ·intro i el sz e;simp[lk]at e
  ·intro i j o p b c b' c' e;simp[lk]at e
  ·intro i j o p u v b e;simp[lk]at e
  ·intro i j o p b c v e;simp[lk]at e
  ·intro i _;exact⟨rfl,rfl⟩
 have:=vL (cx:=⟨md,cls,lab,0,[]⟩) (g:=⟨M,fun _=>none,fun _=>none⟩) (F:=fun _=>False) hm hf hb hk (by simpa using hx) rfl h hw (jZ hvs);refine this.mono ?_;rintro e w' ⟨us,zs,g',aM,rfl,hle,hS,hR,hz⟩;have Bb:=toAll_p hR hz;refine⟨_,g'.M,rfl,by rw[hr];exact Be Bb,hS.holds,hle.M,fun b hb=>hS.old b hb (fun h=>h),?_⟩;exact⟨hS.keep.os,hS.keep.tape,hS.keep.output,hS.keep.size,fun k hk=>hS.keep.block k hk (fun h=>h)⟩
def uM(rn:List (Nat×Nat))(i:Nat):Nat:=(lk i rn).getD i
def qm(fC:Nat)(rn:List (Nat×Nat))(tb aM:Tb):Prop:=(∀p∈rn,fC<=p.1)/\fC<=aM.nx/\pV (uM rn) aM.nx tb.bx aM.bx/\EF (uM rn) aM.nx tb.rw aM.rw/\kQ (uM rn) aM.bx/\kQ (uM rn) aM.rw
theorem mH{fC:Nat}{rn:List (Nat×Nat)}(h:∀p∈rn,fC<=p.1){i:Nat}(hi:i<fC):uM rn i=i:=by
 have:lk i rn=none:=by
  induction rn with
  |nil=>rfl
  |cons p l ih=>
   have hp:=h p (by simp);simp only[lk];rw[if_neg (by omega)];exact ih fun q hq=>h q (by simp[hq])
 simp[uM,this]
def DU(fC:Nat)(rs:List AV)(aM:Tb):List AV->Tb->Prop:=fun zs tb=>∃rn,qm fC rn tb aM/\toAll zs (AV.ren.dm (uM rn) rs)/\AV.fD.eM aM.nx rs=true
theorem Bk{f:FuncId}{fn:Func}{c:Code}{xs rs:List AV}{r:AV}{tb aM:Tb}(md:List Nat)(cls:List (Nat×List (Nat×Cls)))(lab:List (Nat×Nat))(hm:P.follows .mixedOrders=true)(hf:P.funcs[f]?=some fn)(hb:fn.body=some c)(hnm:(fn.name=="runtime.NumGoroutine")=false)(hk:codeOk cls [] fn.ntmps c=true)(hx:xs.length<=fn.ntmps)(hr:r=vX rs)(h:aw P ⟨md,cls,lab,tb.nx,[]⟩ c (me xs tb) (tP P fn (DU tb.nx rs aM))):aE P f xs tb r aM:=by
 refine⟨⟨fn,hf,hnm,by rw[hb];rfl⟩,fun g w vs F hw hvs=>?_⟩;have:=vL (cx:=⟨md,cls,lab,tb.nx,[]⟩) hm hf hb hk hx rfl h hw hvs;refine this.mono ?_;rintro e w' ⟨us,zs,g',t,rfl,hle,hS,hR,rn,⟨h1,h2,h3,h4,h5,h6⟩,hto,oS⟩;refine⟨_,g'.ren (uM rn) aM.nx,rfl,G.kM hle (fC:=tb.nx) (fun i hi=>hw.fresh i (by omega)) h2 (fun i hi=>mH h1 hi),hS.ren h3 h4 h5 h6,?_⟩;rw[hr];exact ow (fI rs (fJ _ hR hto) oS)
theorem FV{f:FuncId}{fn:Func}{c:Code}{xs rs:List AV}{r:AV}{tb aM:Tb}(md:List Nat)(cls:List (Nat×List (Nat×Cls)))(lab:List (Nat×Nat))(ot:List (Nat×OT))(hm:P.follows .mixedOrders=true)(hf:P.funcs[f]?=some fn)(hb:fn.body=some c)(hnm:(fn.name=="runtime.NumGoroutine")=false)(hk:codeOk cls ot fn.ntmps c=true)(hx:xs.length<=fn.ntmps)(hr:r=vX rs)(h:aw P ⟨md,cls,lab,tb.nx,ot⟩ c (me xs tb) (tP P fn (DU tb.nx rs aM))):aE P f xs tb r aM:=by
 refine⟨⟨fn,hf,hnm,by rw[hb];rfl⟩,fun g w vs F hw hvs=>?_⟩;have:=vL (cx:=⟨md,cls,lab,tb.nx,ot⟩) hm hf hb hk hx rfl h hw hvs;refine this.mono ?_;rintro e w' ⟨us,zs,g',t,rfl,hle,hS,hR,rn,⟨h1,h2,h3,h4,h5,h6⟩,hto,oS⟩;refine⟨_,g'.ren (uM rn) aM.nx,rfl,G.kM hle (fC:=tb.nx) (fun i hi=>hw.fresh i (by omega)) h2 (fun i hi=>mH h1 hi),hS.ren h3 h4 h5 h6,?_⟩;rw[hr];exact ow (fI rs (fJ _ hR hto) oS)
def uf:List (Nat×AV)->Nat->AV
 |[]=>fun _=> .any
 |(k,v)::l=>u9 (uf l) k v
@[reducible]def Km(l:List (Nat×AV))(tb:Tb):AS:=⟨uf l,tb⟩
def Td(rn:List (Nat×Nat))(m:Nat)(f:Nat->AV):List (Nat×AV)->Prop
 |[]=>True
 |(k,v)::l=>(f k).to (v.ren (uM rn))/\v.fD m=true/\Td rn m f l
theorem I9{g:G}{rn:List (Nat×Nat)}{m:Nat}{f:Nat->AV}{t:Nat}{v:Value}(h:aX g v (f t)):∀(l:List (Nat×AV)),Td rn m f l->aX (g.ren (uM rn) m) v (uf l t)
 |[],_=> .any v
 |(k,x)::l,hl=>by
  simp only[uf,u9];split
  ·rename_i e;subst e;exact zL x (C3 _ h hl.1) hl.2.1
  ·exact I9 h l hl.2.2
theorem kM{fC:Nat}{st:AS}{l:List (Nat×AV)}{aM:Tb}(rn:List (Nat×Nat))(hr:qm fC rn st.tb aM)(h:Td rn aM.nx st.sl l):st.le fC (Km l aM):=by
 rintro fr a w hf ⟨g,h0,h1,h2,h3,h4⟩;obtain⟨k1,k2,k3,k4,k5,k6⟩:=hr;exact⟨g.ren (uM rn) aM.nx,G.kM h0 hf k2 (fun i hi=>mH k1 hi),h1.ren k3 k4 k5 k6,fun t=>I9 (h2 t) l h,h3,h4⟩
theorem setRow_self{w:World}{b:Nat}{cur:Array Value}{el:TypeId}{f:Nat×Nat}(h:w.heap[b]?=some (.cells cur el f)):w.setRow b cur=w:=by
 obtain⟨heap,tape,drawn,os,output⟩:=w;simp only[World.setRow,World.mk.injEq,and_true]at h⊢;apply Array.ext_getElem?;intro k;rw[Array.getElem?_modify];split
 ·rename_i e;subst e;rw[h];rfl
 ·rfl
theorem yJ{fC:Nat}{st:AS}(t:Nat)(el sz:Nat)(xs:List PC)(h:st.sl t= .full xs\/xs=[]/\st.sl t= .p .nil):st.le fC ⟨u9 st.sl t (.own st.tb.nx xs),st.tb.bU el sz⟩:=by
 rintro fr a w hf ⟨g,h0,h1,h2,h3,h4⟩;have ht:∃ad n,a.tmps.getD t undef= .slice ad n n/\gO g.M (.slice ad n n) (.sl xs):=by
  have:=h2 t;rcases h with h|⟨rfl,h⟩
  ·rw[h]at this;generalize a.tmps.getD t undef=v at this⊢;cases this with|full hr=>exact⟨_,_,rfl,hr⟩
  ·rw[h]at this;have:=aZ this;generalize a.tmps.getD t undef=v at this⊢;cases this;exact⟨none,0,rfl,.cX⟩
 obtain⟨ad,n,hv,hr⟩:=ht;refine⟨g.cY st.tb.nx (.slice ad n n),h0.trans (h1.xS _),h1.sj el sz ad n,fun u=>?_,h3,h4⟩;simp only[u9];split
 ·rename_i e;subst e;rw[hv];exact .own (by simp[G.cY]) hr
 ·exact(h2 u).mono (h1.xS _)
theorem ja{fC:Nat}{st:AS}(id j:Nat)(el sz:Nat)(ob:Ob)(xs:List PC)(hl:lk id st.tb.bx=some ob)(h:ob.xs[j]?=some (.full xs)\/xs=[]/\ob.xs[j]?=some (.p .nil)):st.le fC ⟨st.sl,(st.tb.bU el sz).aP id {ob with xs:=ob.xs.set j (.own st.tb.nx xs)}⟩:=by
 rintro fr a w hf ⟨g,h0,h1,h2,h3,h4⟩;obtain⟨b,c,f1,fr,f0⟩:=h1.boxes id ob hl;have y8:ob.xs≠[]:=fun hz=>by rw[hz]at h;rcases h with h|⟨_,h⟩<;>simp at h
 have g_:0<c:=Nat.pos_of_ne_zero fun hz=>y8 (f0 hz);obtain⟨cur,f2,f3,⟨tt,fz,f4,fo⟩,f5,f6,f7,f8,f9⟩:=fr g_;have ht:∃u ad n,(cur.toList.take ob.xs.length)[j]?=some u/\u= .slice ad n n/\gO g.M (.slice ad n n) (.sl xs):=by
  rcases h with h|⟨rfl,h⟩
  ·obtain⟨u,hu,hr⟩:=f8.get h;cases hr with|full hr=>exact⟨_,_,_,hu,rfl,hr⟩
  ·obtain⟨u,hu,hr⟩:=f8.get h;have:=aZ hr;cases this;exact⟨_,none,0,hu,rfl,.cX⟩
 obtain⟨u,ad,n,hu,rfl,hr⟩:=ht;have hle:=h1.xS (.slice ad n n);have gQ:=h1.sj el sz ad n;have hl':lk id (st.tb.bU el sz).bx=some ob:=hl;have uw:∀{vs:List Value} {ys:List AV} (j:Nat) (v:Value),vs[j]?=some v->aJ (g.cY st.tb.nx (.slice ad n n)) vs ys->aX (g.cY st.tb.nx (.slice ad n n)) v (.own st.tb.nx xs)->aJ (g.cY st.tb.nx (.slice ad n n)) vs (ys.set j (.own st.tb.nx xs)):=by
  intro vs ys
  induction ys generalizing vs with
  |nil=>intro j v _ hs _;simpa using hs
  |cons y ys ih=>
   intro j v hv hs hn;cases hs with
   |cons h hs=>
    cases j with
    |zero=>simp at hv;subst hv;exact .cons hn hs
    |succ j=>simp at hv;exact .cons h (ih j v hv hs hn)
 have key:=gQ.aP (o':={ob with xs:=ob.xs.set j (.own st.tb.nx xs)}) (cur':=cur) hl' (show(g.cY st.tb.nx (.slice ad n n)).ob id=some (b,c)from f1) g_ f4 rfl rfl rfl (by simpa using f7) (by
  simp only[List.length_set];exact uw j _ hu (f8.mono hle) (.own (by simp[G.cY]) (hr.mono hle.M))) (by simpa using f9)
 have hw:w.setRow b cur=w:=setRow_self f4;rw[hw]at key;exact⟨_,h0.trans hle,key,fun t=>(h2 t).mono hle,h3,h4⟩
end
end Go.Av
