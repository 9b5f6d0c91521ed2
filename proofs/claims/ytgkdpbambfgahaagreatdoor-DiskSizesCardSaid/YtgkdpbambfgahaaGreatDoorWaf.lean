/- DiskSizes, part 6: an abstract interpreter over a program's form, with the proof that it is sound; it holds for any program that the model takes. -/
import Derived.Test.YtgkdpbambfgahaaGreatDoorWae
set_option linter.all false
set_option maxRecDepth 100000
set_option maxHeartbeats 64000000
namespace Go.Av
open Go.RowKit
section
variable{P:Program}{st:AS}{o:Oper}
theorem Mw(n:Nat)(u:Value):(List.replicate n (PC.sc u)).flatMap aV=(List.replicate n (PC.sc u)).map .p:=by
 induction n with
 |zero=>rfl
 |succ n ih=>rw[List.replicate_succ,List.flatMap_cons,ih];rfl
theorem ahr{t e:TypeId}{x y:Operand}{bV n:Nat}{kl kc:IntKind}{u:Value}(ho:o.op= .makeSlice t x y)(ht:cV P t=some (e,1,bV))(hz:bJ P e=some [.sc u])(hx:(bH st.sl x).nm= .p (.sc (.int kl n)))(hy:(bH st.sl y).nm= .p (.sc (.int kc n)))(hb:bV*n<=281474976710656)(hc:n<=maxLen):dx P st o (.p (.sl (List.replicate n (.sc u)))) ⟨st.tb.bx,st.tb.rw,st.tb.nx+2⟩:=by
 intro w0 M0 F g a w hw h K Q hK;refine ahs ho ht (by omega) hz hx hy (Nat.le_refl n) hb hc w0 M0 F g a w hw h K Q ?_;intro v w' g' hle hS hv;rw[Mx]at hS;have hold:∀i p,lk i st.tb.bx=some p->i≠st.tb.nx:=fun i p e=>by
  obtain⟨b,c,e1,_⟩:=hw.boxes i p e;have:=hw.yU e1;omega
 cases hv with
 |view e0 h3 h4 h5 hm=>
  rename_i b c au;obtain rfl:c=n:=hm n rfl;have hl:lk st.tb.nx (st.tb.aT ⟨e,1,(List.replicate c (PC.sc u)).map .p⟩).bx=some ⟨e,1,(List.replicate c (PC.sc u)).map .p⟩:=by simp[Tb.aT,lk]
  cases h5 with
  |void hz0 s_=>
   subst hz0;refine hK _ _ g' hle (hS.sub (fun i p hp=>?_) (fun _ _ h=>h) (by simp[Tb.aT])) ?_
   ·simp only[Tb.aT,lk];rw[if_neg (hold i p hp)];exact hp
   ·rcases s_ with rfl|⟨a',rfl⟩
    ·exact .p .dg
    ·exact .p (.p_ a')
  |real off gH had h5=>
   subst had;obtain rfl:off=0:=by have:=h5 (.inr rfl);simpa using this
   obtain⟨N,k1,k2,k3⟩:=hS.vr (n:=c) (ys:=List.replicate c (.sc u)) hl e0 gH (by show 0<1;omega) (Nat.le_refl _) (by simp) (by
    rw[Mw];exact List.take_of_length_le (by simp)) (by simp) (fun y hy=>by rw[(List.mem_replicate.1 hy).2];rfl) (fun y hy=>by rw[(List.mem_replicate.1 hy).2];rfl)
   have DA:(st.tb.aT ⟨e,1,(List.replicate c (PC.sc u)).map .p⟩).nx=st.tb.nx+1:=rfl;refine hK _ w' ((g'.with N).cX (st.tb.aT ⟨e,1,(List.replicate c (PC.sc u)).map .p⟩).nx (.slice (some ⟨b,0,none⟩) c c)) (hle.trans ⟨k1,fun _ _ h=>h,fun i p h=>by have:=hS.mh h;simp only[G.cX,G.with];rw[if_neg (by omega)];exact h⟩) (k2.sub (aO:=⟨st.tb.bx,st.tb.rw,st.tb.nx+2⟩) (fun i p hp=>?_) (fun i p hp=>?_) (by simp[Tb.bX,Tb.cE,Tb.aT])) (.p k3)
   ·simp only[Tb.bX,Tb.cE,Tb.aT,cD];rw[if_neg (hold i p hp),bg,if_neg (hold i p hp)];exact hp
   ·simp only[Tb.bX,Tb.cE,bg];split
    ·rename_i hi;subst hi;obtain⟨v',q1,_⟩:=hw.rows _ p.1 p.2 hp;have:=hw.mh q1;have e2:(st.tb.aT ⟨e,1,(List.replicate c (PC.sc u)).map .p⟩).nx=st.tb.nx+1:=rfl;omega
    ·exact hp
end
def HC(tb:Tb)(aO:Tb):AV->PC->Prop
 | .view id o n s _,.sl ys=>∃ob,lk id tb.bx=some ob/\o=0/\ob.sz=s/\0<s/\n*s<=ob.xs.length/\ob.xs.take (n*s)=ys.flatMap aV/\ys.length=n/\(∀y∈ys,y.width=s)/\(∀y∈ys,cF y=true)/\aO=⟨del id tb.bx,tb.rw,tb.nx+1⟩
 |x,y=>x.pc=some y/\aO=tb
def K3(tb aO:Tb):List AV->List PC->Prop
 |[],[]=>aO=tb
 |x::xs,y::ys=>∃t,HC tb t x y/\K3 t aO xs ys
 |_,_=>False
def K2(tb aO:Tb):AV->PC->Prop
 | .agg false xs,.agg false ys=>K3 tb aO xs ys
 |x,y=>HC tb aO x y
def wZ(tb aO:Tb):List AV->List PC->Prop
 |[],[]=>aO=tb
 |x::xs,y::ys=>∃t,K2 tb t x y/\wZ t aO xs ys
 |_,_=>False
section
variable{P:Program}{st:AS}{o:Oper}{w0:World}{M0:Mem}{F:Nat->Prop}{g:G}{w:World}
theorem Gw{tb aO:Tb}{x:AV}{y:PC}{v:Value}(hw:aR w0 M0 F tb g w)(hv:aZ g v x)(h:HC tb aO x y):∃g',g.le g'/\aR w0 M0 F aO g' w/\gB g'.M v y:=by
 unfold HC at h;split at h
 ·rename_i id o n s m ys;obtain⟨ob,hl,rfl,hsz,hs,hx,hc,hy,hw',ht,rfl⟩:=h;subst hsz;have YV:∀i p,lk i (del id tb.bx)=some p->lk i tb.bx=some p:=fun i p h=>by
   rw[cD]at h;split at h
   ·cases h
   ·exact h
  cases hv with
  |view e h3 h4 h5 hm=>
   rename_i b c au;cases h5 with
   |void hz s_=>
    subst hz;have hn0:n=0:=by omega
    subst hn0;have:ys=[]:=List.eq_nil_of_length_eq_zero hy;subst this;refine⟨g,G.le_refl g,hw.sub YV (fun _ _ h=>h) (Nat.le_succ _),?_⟩;rcases s_ with rfl|⟨a',rfl⟩
    ·exact .dg
    ·exact .p_ a'
   |real off gH had h5=>
    subst had;obtain rfl:off=0:=by have:=h5 (.inr rfl);simpa using this
    obtain⟨N,k1,k2,k3⟩:=hw.vr hl e gH hs (by omega) hx hc hy hw' ht;refine⟨_,?_,k2.sub (aO:=⟨del id tb.bx,tb.rw,tb.nx+1⟩) (fun i p h=>h) (fun i p h=>?_) (Nat.le_refl _),k3⟩
    ·exact⟨k1,fun _ _ h=>h,fun i p h=>by have:=hw.mh h;simp only[G.cX,G.with];rw[if_neg (by omega)];exact h⟩
    ·simp only[Tb.bX,Tb.cE,bg];split
     ·rename_i hi;subst hi;obtain⟨v',q1,_⟩:=hw.rows tb.nx p.1 p.2 h;have:=hw.mh q1;omega
     ·exact h
 ·obtain⟨h1,rfl⟩:=h;exact⟨g,G.le_refl g,hw,mZ hv _ h1⟩
theorem Gx:∀{tb aO:Tb} {g:G} (xs:List AV) {ys:List PC} {vs:List Value},aR w0 M0 F tb g w->aL g vs xs->K3 tb aO xs ys->∃g',g.le g'/\aR w0 M0 F aO g' w/\cP g'.M vs ys
 |tb,aO,g,[],ys,vs,hw,hv,h=>by
  cases ys with
  |nil=>unfold K3 at h;subst h;cases hv;exact⟨g,G.le_refl g,hw,.nil⟩
  |cons y ys=>exact h.elim
 |tb,aO,g,x::xs,ys,vs,hw,hv,h=>by
  cases ys with
  |nil=>exact h.elim
  |cons y ys=>
   obtain⟨t,h1,h2⟩:=h;cases hv with
   |cons a as=>
    obtain⟨g1,k1,k2,k3⟩:=Gw hw a h1;obtain⟨g2,l1,l2,l3⟩:=Gx xs k2 (as.mono k1) h2;exact⟨g2,k1.trans l1,l2,.cons (k3.mono l1.M) l3⟩
theorem SO{tb aO:Tb}{x:AV}{y:PC}{v:Value}(hw:aR w0 M0 F tb g w)(hv:aZ g v x)(h:K2 tb aO x y):∃g',g.le g'/\aR w0 M0 F aO g' w/\gB g'.M v y:=by
 unfold K2 at h;split at h
 ·cases hv with
  |agg hs h1=>
   obtain⟨g',k1,k2,k3⟩:=Gx _ hw hs h;exact⟨g',k1,k2,.agg k3 h1⟩
 ·exact Gw hw hv h
theorem Gy:∀{tb aO:Tb} {g:G} (xs:List AV) {ys:List PC} {vs:List Value},aR w0 M0 F tb g w->aL g vs xs->wZ tb aO xs ys->∃g',g.le g'/\aR w0 M0 F aO g' w/\cP g'.M vs ys
 |tb,aO,g,[],ys,vs,hw,hv,h=>by
  cases ys with
  |nil=>unfold wZ at h;subst h;cases hv;exact⟨g,G.le_refl g,hw,.nil⟩
  |cons y ys=>exact h.elim
 |tb,aO,g,x::xs,ys,vs,hw,hv,h=>by
  cases ys with
  |nil=>exact h.elim
  |cons y ys=>
   obtain⟨t,h1,h2⟩:=h;cases hv with
   |cons a as=>
    obtain⟨g1,k1,k2,k3⟩:=SO hw a h1;obtain⟨g2,l1,l2,l3⟩:=Gy xs k2 (as.mono k1) h2;exact⟨g2,k1.trans l1,l2,.cons (k3.mono l1.M) l3⟩
theorem C6:∀{tb aO:Tb} (xs:List AV) (ys:List PC),wZ tb aO xs ys->ys.length=xs.length
 |_,_,[],[],_=>rfl
 |_,_,x::xs,y::ys,⟨_,_,h⟩=>by simp[C6 xs ys h]
 |_,_,[],_::_,h=>h.elim
 |_,_,_::_,[],h=>h.elim
theorem NB{t e:TypeId}{sz bV n:Nat}{ps:Array (Nat×Operand)}{ys:List PC}{aO:Tb}(ho:o.op= .buildSlice t n ps)(ht:cV P t=some (e,sz,bV))(hsz:0<sz)(Ol:bq 0 ps.toList=true)(hn:ps.size=n)(mV:n*sz<=16777216)(hys:wZ st.tb aO (ps.toList.map fun p=>bH st.sl p.2) ys)(hw':∀y∈ys,y.width=sz)(h1:∀y∈ys,∀b xs,y= .agg b xs->b=false):dx P st o (.full ys) aO:=bQ fun w0 M0 F g a w hw h=>by
 have Kt:aL g ((ps.toList.map (·.2)).map a.eval) ((ps.toList.map (·.2)).map (bH st.sl)):=iK (ps.toList.map (·.2)) fun y hy=>h y (by rw[ho];simpa[Op.operands]using hy);obtain⟨g1,gl,hw1,hr⟩:=Gy _ hw Kt (by rw[List.map_map];exact hys);have iE:=cY hr hw';have oJ:(((ps.map fun(i,x)=>(i,a.eval x)).toList).map (·.2))=(ps.toList.map (·.2)).map a.eval:=by simp
 have Ey:bq 0 ((ps.map fun(i,x)=>(i,a.eval x)).toList)=true:=by
  have key:∀(l:List (Nat×Operand)) (k:Nat),bq k l=true->bq k (l.map fun p=>(p.1,a.eval p.2))=true:=by
   intro l
   induction l with
   |nil=>intro k _;rfl
   |cons p l ih=>intro k hk;simp only[bq,Bool.and_eq_true,List.map_cons]at hk⊢;exact⟨hk.1,ih _ hk.2⟩
  have:=key ps.toList 0 Ol;simpa using this
 have hrun:=jc (P:=P) (w:=w) (n:=n) ht Ey (by simp[hn]) mV hsz (by rw[oJ];exact iE);rw[oJ]at hrun;have hone:∀u∈cellsOf ((ps.toList.map (·.2)).map a.eval),u.oneCell'=true:=by
  have key:∀{us:List Value} {ys:List PC},cP g1.M us ys->(∀y∈ys,∀b xs,y= .agg b xs->b=false)->∀u∈cellsOf us,u.oneCell'=true:=by
   intro us ys hr
   induction us generalizing ys with
   |nil=>intro _ u hu;simp[cellsOf]at hu
   |cons v us ih=>
    intro hb u hu;cases hr with
    |cons hv hr=>
     rename_i y ys;simp only[cellsOf,List.flatMap_cons,List.mem_append]at hu;rcases hu with hu|hu
     ·have hby:=hb y (by simp);by_cases hp:y.plain=true
      ·obtain⟨e1,e2⟩:=gT hv hp;rw[e1]at hu;simp at hu;subst hu;exact e2
      ·cases y with
       |agg b xs=>
        have:=hby b xs rfl;subst this;cases hv with
        |agg hs h1=>exact h1 u (by simpa[Value.cells]using hu)
       |_=>simp[PC.plain]at hp
     ·exact ih hr (fun y hy=>hb y (by simp[hy])) u hu
  exact key hr h1
 obtain⟨e1,e2,e3,e4,e5⟩:=Ah hw1 (cellsOf ((ps.toList.map (·.2)).map a.eval)) e (0,0);have hlen:ys.length=n:=by have:=C6 _ _ hys;simpa[hn]using this
 refine⟨.slice (some ⟨w.heap.size,0,none⟩) n n,_,_,?_,?_,hw1.later e1 e2 e3 e4,?_⟩
 ·have Ez:ps.map (fun(p:Nat×Operand)=>(p.1,a.eval p.2))=((ps.map fun(i,x)=>(i,a.eval x)).toList).toArray:=by apply Array.ext';simp
  simp only[execOp,ho,Sem.run_bind];have xG:(Instr.buildSlice t n (ps.map fun(x:Nat×Operand)=>(x.1,a.eval x.2))).run P w= .ok (.slice (some ⟨w.heap.size,0,none⟩) n n) (w.alloc (.cells (cellsOf ((ps.toList.map (·.2)).map a.eval)).toArray e)):=by rw[Ez];exact hrun
  rw[xG];rfl
 ·exact gl.trans ⟨e1,fun _ _ h=>h,fun _ _ h=>h⟩
 ·refine .full (.sl (sz:=sz) (by have:=hr.length;omega) (Nat.le_refl _) ?_ hsz iE hone e5 (hr.mono e1));have:n*1<=n*sz:=Nat.mul_le_mul_left _ hsz;have G6:n*sz<=16777216:=mV;unfold maxLen;omega
end
def AV.Oq(x y:AV):Prop:=y=x\/(∃p,x.pc=some p/\(y= .p p\/y= .p p.wk))\/(x= .p .nil/\y= .full [])\/∃id o n s m,x= .view id o n s m/\y= .view id o n s none
mutual
def AV.to:AV->AV->Prop
 | .agg t xs,.agg t' ys=>t=t'/\toAll xs ys
 |x,y=>x.Oq y
def toAll:List AV->List AV->Prop
 |[],[]=>True
 |x::l,y::m=>x.to y/\toAll l m
 |_,_=>False
end
theorem gQ{g:G}{v:Value}{x y:AV}(h:aZ g v x)(e:x.Oq y):aZ g v y:=by
 rcases e with rfl|⟨p,e,rfl|rfl⟩|⟨rfl,rfl⟩|⟨id,o,n,s,m,rfl,rfl⟩
 ·exact h
 ·exact .p (mZ h p e)
 ·exact .p (DS (mZ h p e))
 ·cases h with|p h=>cases h;exact .full .dg
 ·cases h with|view e h1 h2 h3 _=>exact .view e h1 h2 h3 (fun _ h=>by cases h)
mutual
theorem Bh{g:G}:∀{v:Value} (x:AV) {y:AV},aZ g v x->x.to y->aZ g v y
 |v,.agg t xs,y,h,e=>by
  by_cases hy:∃t' ys,y= .agg t' ys
  ·obtain⟨t',ys,rfl⟩:=hy;simp only[AV.to]at e;obtain⟨rfl,e⟩:=e;cases h with
   |agg hs h1=>exact .agg (fj xs hs e) h1
   |o4 hs=>exact .o4 (fj xs hs e)
  ·refine gQ h ?_;unfold AV.to at e;split at e
   ·exact absurd ⟨_,_,rfl⟩ hy
   ·exact e
 |v,.p x,y,h,e=>gQ h (by unfold AV.to at e;exact e)
 |v,.obj i o,y,h,e=>gQ h (by unfold AV.to at e;exact e)
 |v,.own i o,y,h,e=>gQ h (by unfold AV.to at e;exact e)
 |v,.full x,y,h,e=>gQ h (by unfold AV.to at e;exact e)
 |v,.nn x,y,h,e=>gQ h (by unfold AV.to at e;exact e)
 |v,.view a b c d f,y,h,e=>gQ h (by unfold AV.to at e;exact e)
 |v,.jZ f x,y,h,e=>gQ h (by unfold AV.to at e;exact e)
 |v,.kG f x,y,h,e=>gQ h (by unfold AV.to at e;exact e)
 |v,.kV f x,y,h,e=>gQ h (by unfold AV.to at e;exact e)
 |v,.any,y,h,e=>gQ h (by unfold AV.to at e;exact e)
theorem fj{g:G}:∀{vs:List Value} (xs:List AV) {ys:List AV},aL g vs xs->toAll xs ys->aL g vs ys
 |_,[],ys,h,e=>by
  cases ys with
  |nil=>exact h
  |cons y ys=>simp[toAll]at e
 |_,x::xs,ys,h,e=>by
  cases ys with
  |nil=>simp[toAll]at e
  |cons y ys=>
   simp only[toAll]at e;cases h with|cons h1 hs=>exact .cons (Bh x h1 e.1) (fj xs hs e.2)
end
def t_(P:Program)(gf:FuncId)(caps:List PC)(args:List AV)(tb:Tb)(k:AV->Tb->Prop):Prop:=∃ys ts r ts',toAll args ys/\aI P gf (ys++caps.map .p) ts r ts'/\ay tb.bx ts.bx/\ay tb.rw ts.rw/\ts.nx=tb.nx/\k r (tb.merge ts ts')
def oO(P:Program)(gf:FuncId)(xs:List AV)(tb:Tb)(k:AV->Tb->Prop):Prop:=∃ys ts r ts',toAll xs ys/\aI P gf ys ts r ts'/\ay tb.bx ts.bx/\ay tb.rw ts.rw/\ts.nx=tb.nx/\k r (tb.merge ts ts')
def uP(P:Program)(args:List AV)(tb:Tb)(k:AV->Tb->Prop):AV->Prop
 | .p (.fn (.func gf) caps)=>(∃xs,dR (args.map AV.nm)=some xs/\xU P gf (xs.map PC.wk++caps) fun r=>k r tb)\/t_ P gf caps args tb k\/LS P gf caps args tb k\/(caps=[]/\aha P gf args tb k)
 | .jZ (.func gf) xs=>oO P gf (args++xs) tb k
 | .kG (.func gf) xs=>oO P gf (xs++args) tb k
 |_=>False
def uQ(P:Program)(t:TypeId)(name:String):Option FuncId:=match P.info? t with
 |some i=>match i.methods.find? (·.name==name),P.underlying t with
  |some m,some (.pointer _)=>if m.path.isEmpty=true then(match m.func with|some (f,true)=>some f|_=>none)else none
  |_,_=>none
 |none=>none
def IB(P:Program)(x:AV)(args:List AV)(tb:Tb)(k:AV->Tb->Prop):Option FuncId->Prop
 |some gf=>t_ P gf [] (x::args) tb k
 |none=>False
def IA(P:Program)(name:String)(args:List AV)(tb:Tb)(k:AV->Tb->Prop):AV->Prop
 | .kV t x=>IB P x args tb k (uQ P t name)
 |_=>False
def loadT(P:Program)(t:TypeId)(tb:Tb)(k:AV->Tb->Prop):AV->Prop
 | .obj id off=>match lk id tb.bx,bR P t,aP P t with
  |some ob,some ag,some s=>(match ji off s ag ob.xs with
   |some y=>k y tb
   |none=>False)
  |_,_,_=>False
 |x=>uz P t (fun y=>k y tb) x.nm
def storeT(P:Program)(t:TypeId)(tb:Tb)(k:AV->Tb->Prop)(x y:AV):Prop:=match x,y.cR with
 | .obj id off,some zs=>match lk id tb.bx with
  |some ob=>aP P t=some zs.length/\off+zs.length<=ob.xs.length/\k .any (tb.aQ id {ob with xs:=ob.xs.take off++zs++ob.xs.drop (off+zs.length)})
  |none=>False
 |_,_=>False
def C'(rw:List (Nat×TypeId×Nat))(e:TypeId)(sz:Nat):AV->Option (Option Nat×List PC)
 | .own id xs=>if lk id rw=some (e,sz)then some (some id,xs)else none
 | .full xs=>some (none,xs)
 | .p .nil=>some (none,[])
 |_=>none
def aiY(rw:List (Nat×TypeId×Nat))(e:TypeId)(sz:Nat)(x:AV)(xs:List PC):Option Nat->Prop
 |none=>x= .full xs\/xs=[]/\x= .p .nil
 |some id=>x= .own id xs/\lk id rw=some (e,sz)
theorem zM{rw:List (Nat×TypeId×Nat)}{e:TypeId}{sz:Nat}{x:AV}{dO:Option Nat}{xs:List PC}(h:C' rw e sz x=some (dO,xs)):aiY rw e sz x xs dO:=by
 unfold C' at h;split at h
 ·split at h
  ·rename_i hl;injection h with h;injection h with h1 h2;subst h1;subst h2;exact⟨rfl,hl⟩
  ·cases h
 ·injection h with h;injection h with h1 h2;subst h1;subst h2;exact .inl rfl
 ·injection h with h;injection h with h1 h2;subst h1;subst h2;exact .inr ⟨rfl,rfl⟩
 ·cases h
def NK(P:Program)(u:TypeId)(e:TypeId)(sz bV:Nat)(dO:Option Nat)(xs:List PC)(tb:Tb)(k:AV->Tb->Prop)(ys:List PC):Prop:=0<sz/\(aJ P u).isSome=true/\(∀x∈xs,x.width=sz)/\(∀y∈ys,y.width=sz)/\(xs.length+ys.length)*bV<=140737488355328/\xs.length+ys.length<=9223372036854775807/\k (.own tb.nx (xs++ys)) (nK tb dO e sz)
def aoc(P:Program)(u:TypeId)(e:TypeId)(sz bV:Nat)(dO:Option Nat)(xs:List PC)(tb:Tb)(k:AV->Tb->Prop)(s:ByteArray):Prop:=sz=1/\isStr P u=true/\(∀x∈xs,x.width=1)/\(xs.length+(bs s).length)*bV<=140737488355328/\xs.length+(bs s).length<=9223372036854775807/\k (.own tb.nx (xs++ah (bs s))) (nK tb dO e 1)
def E9(P:Program)(u:TypeId)(e:TypeId)(sz bV:Nat)(tb:Tb)(k:AV->Tb->Prop)(y:AV):Option (Option Nat×List PC)->Prop
 |some (dO,xs)=>match y with
  | .p (.sc (.string s))=>aoc P u e sz bV dO xs tb k s
  | .p (.sl ys)=>NK P u e sz bV dO xs tb k ys
  | .p .nil=>NK P u e sz bV dO xs tb k []
  |_=>False
 |none=>False
def yM(P:Program)(u:TypeId)(tb:Tb)(k:AV->Tb->Prop)(x y:AV):Option (TypeId×Nat×Nat)->Prop
 |some (e,sz,bV)=>E9 P u e sz bV tb k y (C' tb.rw e sz x)
 |none=>False
def EL(P:Program)(t:TypeId)(tb:Tb)(k:AV->Tb->Prop)(x:AV):Prop:=match x.cR with
 |some zs=>k (.obj tb.nx 0) (tb.aT ⟨t,zs.length,zs⟩)
 |none=>False
def xR(P:Program)(tb:Tb)(k:AV->Tb->Prop):Option (List PC)->TypeId->Prop
 |some zs,t=>k (.obj tb.nx 0) (tb.aT ⟨t,zs.length,zs.map .p⟩)
 |none,_=>False
def Yq(P:Program)(tb:Tb)(k:AV->Tb->Prop)(x y:AV):Option (TypeId×Nat×Nat)->Prop
 |some (e,s,bV)=>match x,y,bJ P e with
  | .p (.sc (.int _ n)),.p (.sc (.int _ c)),some z=>0<s/\0<=n/\n<=c/\bV*c.toNat<=281474976710656/\c.toNat<=maxLen/\k (.view tb.nx 0 n.toNat s (some c.toNat)) (tb.aT ⟨e,s,(fC c.toNat z).map .p⟩)
  |_,_,_=>False
 |none=>False
def Iw(tb:Tb)(k:AV->Tb->Prop)(n c:Int)(bV s:Nat):Option (List PC)->Prop
 |some [.sc u]=>s=1/\0<=n/\n=c/\bV*n.toNat<=281474976710656/\n.toNat<=maxLen/\k (.p (.sl (List.replicate n.toNat (.sc u)))) ⟨tb.bx,tb.rw,tb.nx+2⟩
 |_=>False
def mkP(P:Program)(tb:Tb)(k:AV->Tb->Prop)(x y:AV):Option (TypeId×Nat×Nat)->Prop
 |some (e,s,bV)=>match x,y with
  | .p (.sc (.int _ n)),.p (.sc (.int _ c))=>Iw tb k n c bV s (bJ P e)
  |_,_=>False
 |none=>False
def cpG(tb1:Tb)(k:AV->Tb->Prop)(id f n s:Nat)(ob:Ob)(n' f':Nat):Option Ob->Prop
 |some iz=>(f'+Nat.min n' n)*s<=iz.xs.length/\k (.p (.int (Nat.min n' n:Nat))) (tb1.aQ id {ob with xs:=ob.xs.take (f*s)++(iz.xs.drop (f'*s)).take (Nat.min n' n*s)++ob.xs.drop (f*s+Nat.min n' n*s)})
 |none=>False
def Zi(tb1:Tb)(k:AV->Tb->Prop)(id f n s:Nat)(ob:Ob):AV->Prop
 | .view id' f' n' s' _=>s'=s/\cpG tb1 k id f n s ob n' f' (lk id' tb1.bx)
 |y=>(match y.nm with
  | .p (.sl ys)=>(∀y∈ys,y.width=s)/\(∀y∈ys,cF y=true)/\k (.p (.int (Nat.min ys.length n:Nat))) (tb1.aQ id {ob with xs:=ob.xs.take (f*s)++(ys.take (Nat.min ys.length n)).flatMap aV++ob.xs.drop (f*s+Nat.min ys.length n*s)})
  |_=>False)
def cpO(tb:Tb)(k:AV->Tb->Prop)(id f n s:Nat)(y:AV):Option Ob->Prop
 |some ob=>ob.sz=s/\Zi (tb.aQ id {ob with xs:=bB (f*s) ob.xs}) k id f n s {ob with xs:=bB (f*s) ob.xs} y
 |none=>False
def cpT(tb:Tb)(k:AV->Tb->Prop)(es:Option Nat):AV->AV->Prop
 | .view id f n s _,y=>es=some s/\cpO tb k id f n s y (lk id tb.bx)
 |_,_=>False
def Yp(P:Program)(tb:Tb)(k:AV->Tb->Prop)(x:AV):Option (TypeId×Nat×Nat)->Prop
 |some (e,s,_)=>match x,bJ P e with
  | .view id f n s' _,some z=>s'=s/\0<s/\(match lk id tb.bx with
   |some ob=>ob.sz=s/\f*s<=ob.xs.length/\k .any (tb.aQ id {ob with xs:=ob.xs.take (f*s)++(fC n z).map .p++ob.xs.drop (f*s+n*s)})
   |none=>False)
  |_,_=>False
 |none=>False
def MT(tb:Tb)(k:AV->Tb->Prop)(id f n s m bV:Nat)(e:TypeId)(ob:Ob)(j:Nat)(zs:List AV):Prop:=(f+n+j<=m/\k (.view id f (n+j) s (some m)) (tb.aQ id {ob with xs:=ob.xs.take ((f+n)*s)++zs++ob.xs.drop ((f+n)*s+j*s)}))\/(m-f<n+j/\(n+j)*bV<=140737488355328/\n+j<=9223372036854775807/\k (.view tb.nx 0 (n+j) s none) (tb.aT ⟨e,s,(ob.xs.drop (f*s)).take (n*s)++zs⟩))
def MU(tb:Tb)(k:AV->Tb->Prop)(id f n s bV:Nat)(e:TypeId)(ob:Ob)(j:Nat)(zs:List AV):Prop:=f=0/\ob.el=e/\(n+j)*bV<=140737488355328/\n+j<=9223372036854775807/\k (.view tb.nx 0 (n+j) s none) ((tb.cE id).aT ⟨e,s,ob.xs.take (n*s)++zs⟩)
def MS(P:Program)(u:TypeId)(tb:Tb)(k:AV->Tb->Prop)(id f n s bV:Nat)(e:TypeId)(ob:Ob)(y:AV):Option Nat->Prop
 |some m=>nY P tb u s (MT tb k id f n s m bV e ob) y
 |none=>nY P tb u s (MU tb k id f n s bV e ob) y
def EN(P:Program)(tb:Tb)(k:AV->Tb->Prop)(id f n s bV:Nat)(e:TypeId)(ob:Ob):Option Nat->AV->Option (List PC)->Prop
 |none,.p (.sc (.int _ j)),some z=>f=0/\ob.sz=s/\ob.el=e/\0<s/\0<j/\(n+j.toNat)*bV<=140737488355328/\n+j.toNat<=9223372036854775807/\k (.view tb.nx 0 (n+j.toNat) s none) ((tb.cE id).aT ⟨e,s,ob.xs.take (n*s)++(fC j.toNat z).map .p⟩)
 |some m,.p (.sc (.int _ j)),some z=>0<s/\0<j/\m-f<n+j.toNat/\(n+j.toNat)*bV<=140737488355328/\n+j.toNat<=9223372036854775807/\k (.view tb.nx 0 (n+j.toNat) s none) (tb.aT ⟨e,s,(ob.xs.drop (f*s)).take (n*s)++(fC j.toNat z).map .p⟩)
 |_,_,_=>False
def EM(P:Program)(u:TypeId)(tb:Tb)(k:AV->Tb->Prop)(id f n s:Nat)(m:Option Nat)(bV:Nat)(e:TypeId)(y:AV):Option IntKind->Option Ob->Prop
 |none,some ob=>ob.sz=s/\(f+n)*s<=ob.xs.length/\MS P u tb k id f n s bV e ob y m
 |some _,some ob=>(f+n)*s<=ob.xs.length/\EN P tb k id f n s bV e ob m y.nm (bJ P e)
 |_,none=>False
def Sg(P:Program)(u:TypeId)(tb:Tb)(k:AV->Tb->Prop)(id f n s:Nat)(m:Option Nat)(y:AV):Option (TypeId×Nat×Nat)->Prop
 |some (e,s',bV)=>s'=s/\EM P u tb k id f n s m bV e y (Av.intOf P u) (lk id tb.bx)
 |none=>False
def MV(tb:Tb)(k:AV->Tb->Prop)(s bV:Nat)(e:TypeId)(j:Nat)(zs:List AV):Prop:=j*bV<=140737488355328/\j<=9223372036854775807/\k (.view tb.nx 0 j s none) (tb.aT ⟨e,s,zs⟩)
def zB(tb:Tb)(k:AV->Tb->Prop)(s bV:Nat)(e:TypeId):AV->Option (List PC)->Prop
 | .p (.sc (.int _ j)),some z=>0<s/\0<j/\j.toNat*bV<=140737488355328/\j.toNat<=9223372036854775807/\k (.view tb.nx 0 j.toNat s none) (tb.aT ⟨e,s,(fC j.toNat z).map .p⟩)
 |_,_=>False
def xS(P:Program)(u:TypeId)(tb:Tb)(k:AV->Tb->Prop)(s bV:Nat)(e:TypeId)(y:AV):Option IntKind->Prop
 |some _=>zB tb k s bV e y.nm (bJ P e)
 |none=>nY P tb u s (MV tb k s bV e) y
def isNone:AV->Prop
 | .full []=>True
 | .p .nil=>True
 |_=>False
def MR(P:Program)(u:TypeId)(tb:Tb)(k:AV->Tb->Prop)(x y:AV):Option (TypeId×Nat×Nat)->Prop
 |some (e,s,bV)=>isNone x/\xS P u tb k s bV e y (Av.intOf P u)
 |none=>False
def CT(P:Program)(md:Bool)(u:TypeId)(tb:Tb)(k:AV->Tb->Prop)(el:Option (TypeId×Nat×Nat)):AV->AV->Prop
 | .view id f n s m,y=>Sg P u tb k id f n s m y el
 |x,y=>if md=true then MR P u tb k x y el else yM P u tb k x y.nm el
def MP(P:Program)(t:TypeId)(n:Nat)(tb:Tb)(k:AV->Tb->Prop):AV->Prop
 | .full ys=>match cV P t with
  |some (e,sz,_)=>k (.view tb.nx 0 n sz (some n)) (tb.aT ⟨e,sz,ys.flatMap aV⟩)
  |none=>False
 |_=>False
def cvV(P:Program)(s d:TypeId)(tb:Tb)(k:AV->Tb->Prop)(x:AV):Prop:=dL P s=true/\isStr P d=true/\∃l:List UInt8,cQ tb.bx 1 x (.sl (ah l))/\k (.p (.str l)) tb
def Yi(P:Program)(s d:TypeId)(tb:Tb)(k:AV->Tb->Prop)(x:AV)(id n:Nat):Option Ob->Prop
 |some ob=>s=d/\dL P d=true/\ob.el<1000000/\0<ob.xs.length/\0<n/\k x (tb.aQ id {ob with el:=ob.el+1000000})
 |none=>False
def Yj(P:Program)(s d:TypeId)(tb:Tb)(k:AV->Tb->Prop)(b:ByteArray):Option (TypeId×Nat×Nat)->Prop
 |some (el,sz,_)=>isStr P s=true/\dL P d=true/\sz=1/\(bs b).length<=9223372036854775807/\k (.view tb.nx 0 (bs b).length 1 none) (tb.aT ⟨el+1000000,1,(ah (bs b)).map .p⟩)
 |none=>False
def cvM(P:Program)(s d:TypeId)(tb:Tb)(k:AV->Tb->Prop):AV->Prop
 | .p (.sc (.string b))=>Yj P s d tb k b (cV P d)
 |_=>False
def nL(P:Program)(md:Bool)(s d:TypeId)(tb:Tb)(k:AV->Tb->Prop):AV->Prop
 | .view id f n z m=>if isStr P d=true then cvV P s d tb k (.view id f n z m)else Yi P s d tb k (.view id f n z m) id n (lk id tb.bx)
 |x=>if md=true then cvM P s d tb k x.nm else nE P s d (fun y=>k y tb) x.nm
def Iv(e:TypeId)(sz n:Nat)(tb:Tb)(k:AV->Tb->Prop):Option (List AV)->Prop
 |some zs=>k (.view tb.nx 0 n sz (some n)) (tb.aT ⟨e,sz,zs⟩)
 |none=>False
def Iu(_t:TypeId)(n:Nat)(tb:Tb)(k:AV->Tb->Prop)(ps:List (Nat×AV)):Option (TypeId×Nat×Nat)->Prop
 |some (e,sz,_)=>0<sz/\bq 0 ps=true/\ps.length=n/\n*sz<=16777216/\Iv e sz n tb k (kZ sz (ps.map (·.2)))
 |none=>False
def uO(P:Program)(t:TypeId)(n:Nat)(tb:Tb)(k:AV->Tb->Prop)(ps:List (Nat×AV)):Option (List PC)->Prop
 |some _=>xF P t n (MP P t n tb k) ps
 |none=>Iu t n tb k ps (cV P t)
def tY(n:Nat)(tb:Tb)(k:AV->Tb->Prop)(ps:List (Nat×AV)):Option (TypeId×Nat×Nat)->Prop
 |some (_,sz,_)=>0<sz/\bq 0 ps=true/\ps.length=n/\n*sz<=16777216/\∃ys aO,wZ tb aO (ps.map (·.2)) ys/\(∀y∈ys,y.width=sz)/\(∀y∈ys,cF y=true)/\k (.full ys) aO
 |none=>False
def MO(P:Program)(t:TypeId)(n:Nat)(tb:Tb)(k:AV->Tb->Prop)(q:Prop)(ps:List (Nat×AV)):Option (List PC)->Prop
 |some _=>q
 |none=>tY n tb k ps (cV P t)
def slC(tb:Tb)(k:AV->Tb->Prop)(id m sz:Nat):Option (List PC)->Prop
 |some zs=>sz=m/\zs.length=m/\0<m/\m<=maxLen/\k (.full zs) ⟨del id tb.bx,tb.rw,tb.nx+1⟩
 |none=>False
def slO(tb:Tb)(k:AV->Tb->Prop)(id:Nat):Option Ob->Option (Nat×Nat×Bool)->Prop
 |some ob,some (m,s,_)=>s=1/\slC tb k id m ob.sz (dR ob.xs)
 |_,_=>False
def slT(P:Program)(t:TypeId)(tb:Tb)(k:AV->Tb->Prop)(q:Prop):AV->Prop
 | .obj id off=>off=0/\slO tb k id (lk id tb.bx) (gL P t)
 |_=>q
def clO(tb:Tb)(k:AV->Tb->Prop)(id n s:Nat):Option Ob->Prop
 |some ob=>ob.sz=s/\k (.view tb.nx 0 n s (some n)) ((tb.cE id).aT ⟨ob.el,ob.sz,ob.xs.take (n*s)⟩)
 |none=>False
def zA(P:Program)(t:TypeId)(tb:Tb)(k:AV->Tb->Prop):AV->AV->AV->Prop
 | .p (.sc (.int _ h)),.p (.sc (.int _ m)),.view id f n s _=>aJ P t=some s/\f=0/\h=(n:Int)/\m=(n:Int)/\clO tb k id n s (lk id tb.bx)
 |_,_,_=>False
def jx(P:Program)(md:Bool)(op:Op)(e:Operand->AV)(tb:Tb)(k:AV->Tb->Prop):Prop:=match op with
 | .box t x=>if md=true then EL P t tb k (e x)else gI P (.box t x) e fun y=>k y tb
 | .alloc t=>xR P tb k (bJ P t) t
 | .buildSlice t n ps=>if md=true then uO P t n tb k (dB e ps) (dR ((dB e ps).map fun p=>p.2.nm))else MO P t n tb k (gI P (.buildSlice t n ps) e fun y=>k y tb) (dB e ps) (dR ((dB e ps).map fun p=>p.2.nm))
 | .slice t x none none none=>slT P t tb k (gI P (.slice t x none none none) e fun y=>k y tb) (e x)
 | .slice t x none (some hi) (some mx)=>if md=true then zA P t tb k (e hi).nm (e mx).nm (e x)else gI P (.slice t x none (some hi) (some mx)) e fun y=>k y tb
 | .convert s d x=>nL P md s d tb k (e x)
 | .load t x=>loadT P t tb k (e x)
 | .store t x y=>storeT P t tb k (e x) (e y)
 | .makeSlice t x y=>if md=true then mkP P tb k (e x).nm (e y).nm (cV P t)else Yq P tb k (e x).nm (e y).nm (cV P t)
 | .call c=>match c.callee with
  | .builtin .append=>c.args.size=2/\c.argTypes.size=2/\CT P md (c.argTypes.getD 1 0) tb k (cV P (c.argTypes.getD 0 0)) (e (c.args.getD 0 (.tmp 0))) (e (c.args.getD 1 (.tmp 0)))
  | .builtin .copy=>c.args.size=2/\c.argTypes.size=2/\cpT tb k (aJ P (c.argTypes.getD 0 0)) (e (c.args.getD 0 (.tmp 0))) (e (c.args.getD 1 (.tmp 0)))
  | .builtin .clear=>c.args.size=1/\c.argTypes.size=1/\Yp P tb k (e (c.args.getD 0 (.tmp 0))) (cV P (c.argTypes.getD 0 0))
  | .value f=>uP P (c.args.toList.map e) tb k (e f).nm
  | .invoke x name=>IA P name (c.args.toList.map e) tb k (e x)
  |_=>gI P (.call c) e fun y=>k y tb
 |op=>gI P op e fun y=>k y tb
section
variable{P:Program}{st:AS}{o:Oper}
theorem GC{c:Call}{f:Operand}{gf:FuncId}{caps:List PC}{ys:List AV}{ts ts':Tb}{r:AV}(ho:o.op= .call c)(hc:c.callee= .value f)(hf:(bH st.sl f).nm= .p (.fn (.func gf) caps))(hx:toAll (c.args.toList.map (bH st.sl)) ys)(hp:aI P gf (ys++caps.map .p) ts r ts')(hb:ay st.tb.bx ts.bx)(hr:ay st.tb.rw ts.rw)(hn:ts.nx=st.tb.nx):dx P st o r (st.tb.merge ts ts'):=by
 intro w0 M0 F g a w hw hop K Q hK;have ox:∀y,y∈o.op.operands->aZ g (a.eval y) (bH st.sl y):=fun y hy=>iq y fun t e=>hop t (e▸hy);have h1:=bU (ox f (by rw[ho];simp[Op.operands,Call.operands,hc]));rw[hf]at h1;have gD:=bf h1;generalize hv:a.eval f=v at gD;cases gD with
 |fn mq=>
  rename_i cv;have hargs:=iK (g:=g) (a:=a) (sl:=st.sl) c.args.toList (fun y hy=>ox y (by rw[ho];simp[Op.operands,Call.operands,hc];exact Or.inr (by simpa using hy)));have hall:=(fj _ hargs hx).append (ja mq);have hrun:(execOp a.eval o).run P w= .ok (.enter gf ((c.args.toList.map a.eval)++cv).toArray) w:=by
   simp[execOp,ho,resolve,hc,hv,Deferred.ofValue,invoke,fL hp.1]
  unfold Oper.wp;rw[hrun];refine(hp.2 g w _ _ (hw.part hb hr hn) hall).mono ?_;rintro e' w' ⟨v',g',rfl,hle,hS,hr'⟩;exact hK v' w' g' hle (hw.back hb hr hle hS) hr'
theorem GD{c:Call}{f:Operand}{gf:FuncId}{xs ys:List AV}{ts ts':Tb}{r:AV}(ho:o.op= .call c)(hc:c.callee= .value f)(hf:((bH st.sl f).nm= .jZ (.func gf) xs/\toAll (c.args.toList.map (bH st.sl)++xs) ys)\/((bH st.sl f).nm= .kG (.func gf) xs/\toAll (xs++c.args.toList.map (bH st.sl)) ys))(hp:aI P gf ys ts r ts')(hb:ay st.tb.bx ts.bx)(hr:ay st.tb.rw ts.rw)(hn:ts.nx=st.tb.nx):dx P st o r (st.tb.merge ts ts'):=by
 intro w0 M0 F g a w hw hop K Q hK;have ox:∀y,y∈o.op.operands->aZ g (a.eval y) (bH st.sl y):=fun y hy=>iq y fun t e=>hop t (e▸hy);have h1:=bU (ox f (by rw[ho];simp[Op.operands,Call.operands,hc]));have hargs:=iK (g:=g) (a:=a) (sl:=st.sl) c.args.toList (fun y hy=>ox y (by rw[ho];simp[Op.operands,Call.operands,hc];exact Or.inr (by simpa using hy)));have key:∃us,aL g us ys/\(execOp a.eval o).run P w= .ok (.enter gf us.toArray) w:=by
  rcases hf with⟨hf,hx⟩|⟨hf,hx⟩
  ·rw[hf]at h1;generalize hv:a.eval f=v at h1;cases h1 with
   |jZ mq=>
    rename_i cv;exact⟨_,fj _ (hargs.append mq) hx,by simp[execOp,ho,resolve,hc,hv,Deferred.ofValue,invoke,fL hp.1]⟩
  ·rw[hf]at h1;generalize hv:a.eval f=v at h1;cases h1 with
   |kG mq=>
    rename_i cv;exact⟨_,fj _ (mq.append hargs) hx,by simp[execOp,ho,resolve,hc,hv,Deferred.ofValue,invoke,fL hp.1]⟩
 obtain⟨us,hall,hrun⟩:=key;unfold Oper.wp;rw[hrun];refine(hp.2 g w _ _ (hw.part hb hr hn) hall).mono ?_;rintro e' w' ⟨v',g',rfl,hle,hS,hr'⟩;exact hK v' w' g' hle (hw.back hb hr hle hS) hr'
theorem NL{t:TypeId}{name:String}{gf:FuncId}{v:Value}{w:World}{n:Nat}(h:uQ P t name=some gf):(method (n+1) t v name).run P w= .ok (gf,v) w:=by
 unfold uQ at h;split at h
 ·rename_i i hi;split at h
  ·rename_i m e hm hu;split at h
   ·rename_i hp;split at h
    ·rename_i f hf;injection h with h;subst h;have aiZ:m.path.toList=[]:=by
      have:m.path=#[]:=by simpa using hp
      rw[this]
     unfold method;simp only[Sem.run_bind,run_typeInfo (w:=w) hi,Result.andThen_ok,hm,aiZ,follow,Sem.run_pure,hf,receiverAt,run_underlying hu,Place.get]
    ·cases h
   ·cases h
  ·cases h
 ·cases h
theorem NM{c:Call}{x:Operand}{name:String}{t:TypeId}{av:AV}{gf:FuncId}{ys:List AV}{ts ts':Tb}{r:AV}(ho:o.op= .call c)(hc:c.callee= .invoke x name)(hf:bH st.sl x= .kV t av)(hm:uQ P t name=some gf)(hx:toAll (av::c.args.toList.map (bH st.sl)) ys)(hp:aI P gf ys ts r ts')(hb:ay st.tb.bx ts.bx)(hr:ay st.tb.rw ts.rw)(hn:ts.nx=st.tb.nx):dx P st o r (st.tb.merge ts ts'):=by
 intro w0 M0 F g a w hw hop K Q hK;have ox:∀y,y∈o.op.operands->aZ g (a.eval y) (bH st.sl y):=fun y hy=>iq y fun t e=>hop t (e▸hy);have h1:=ox x (by rw[ho];simp[Op.operands,Call.operands,hc]);rw[hf]at h1;generalize hv:a.eval x=v at h1;cases h1 with
 |kV hrecv=>
  rename_i rv;have hargs:=iK (g:=g) (a:=a) (sl:=st.sl) c.args.toList (fun y hy=>ox y (by rw[ho];simp[Op.operands,Call.operands,hc];exact Or.inr (by simpa using hy)));have hall:=fj _ (aL.cons hrecv hargs) hx;have hrun:(execOp a.eval o).run P w= .ok (.enter gf (rv::c.args.toList.map a.eval).toArray) w:=by
   have e1:#[Value.iface t rv]++Array.map a.eval c.args=(Value.iface t rv::c.args.toList.map a.eval).toArray:=by
    apply Array.ext';simp
   simp only[execOp,ho,resolve,hc,hv,Sem.run_bind,Sem.run_pure,Result.andThen_ok,invoke,e1];simp[callMethod,run_program,Made.depth,NL hm,fL hp.1];exact List.take_of_length_le (by simp)
  unfold Oper.wp;rw[hrun];refine(hp.2 g w _ _ (hw.part hb hr hn) hall).mono ?_;rintro e' w' ⟨v',g',rfl,hle,hS,hr'⟩;exact hK v' w' g' hle (hw.back hb hr hle hS) hr'
theorem ur{α:Type}{a:Array α}(h:a.size=2)(d:α):a=#[a.getD 0 d,a.getD 1 d]:=by
 match a,h with
 |⟨[x,y]⟩,_=>rfl
theorem GF:∀{xs:List AV} {zs:List PC},dR xs=some zs->xs=zs.map .p
 |[],zs,h=>by simp only[dR,Option.some.injEq]at h;subst h;rfl
 |x::l,zs,h=>by
  cases x with
  |p x=>
   simp only[dR]at h;split at h
   ·rename_i r hr;injection h with h;subst h;rw[List.map_cons,<-GF hr]
   ·cases h
  |_=>simp[dR]at h
theorem vI{md:Bool}{k:AV->Tb->Prop}(h:jx P md o.op (bH st.sl) st.tb k):∃x aO,k x aO/\dx P st o x aO:=by
 have U9:(gI P o.op (bH st.sl) fun y=>k y st.tb)->∃x aO,k x aO/\dx P st o x aO:=fun h=>by
  obtain⟨x,h1,h2⟩:=A4 h;exact⟨x,_,h1,dx.W2 h2⟩
 unfold jx at h;split at h
 ·rename_i t x ho;split at h
  ·unfold EL at h;split at h
   ·rename_i zs hz;exact⟨_,_,h,ahb ho hz⟩
   ·exact h.elim
  ·exact U9 (by rw[ho];exact h)
 ·rename_i t ho;cases hz:bJ P t with
  |none=>rw[hz]at h;exact h.elim
  |some zs=>rw[hz]at h;exact⟨_,_,h,QY ho hz⟩
 ·rename_i t n ps ho;split at h
  ·have io:∀(l:List (Nat×Operand)) (k:Nat),bq k (l.map fun p=>(p.1,bH st.sl p.2))=bq k l:=by
    intro l;induction l with
    |nil=>intro k;rfl
    |cons p l ih=>intro k;simp[bq,ih]
   cases hal:dR ((dB (bH st.sl) ps).map fun p=>p.2.nm)with
   |none=>
    rw[hal]at h;unfold uO Iu at h;simp only at h;split at h
    ·rename_i e sz bV ht;obtain⟨h1,h2,h3,h4,h⟩:=h;unfold Iv at h;split at h
     ·rename_i zs hz;exact⟨_,_,h,Xt ho ht h1 (by rw[<-io];exact h2) (by simpa[dB]using h3) h4 (by rw[<-hz];simp[dB,Function.comp_def])⟩
     ·exact h.elim
    ·exact h.elim
   |some ys0=>
   rw[hal]at h;unfold uO xF at h;simp only at h;split at h
   ·rename_i e sz bV ht;obtain⟨h1,h2,h3,h4,h⟩:=h;split at h
    ·rename_i ys hys;obtain⟨h5,h⟩:=h;unfold MP at h;simp only[ht]at h;have h6:=List.all_eq_true.1 h5;refine⟨_,_,h,ahm ho ht h1 (by rw[<-io];exact h2) (by simpa[dB]using h3) h4 (by rw[<-hys];simp[dB,Function.comp_def]) (fun y hy=>?_) (fun y hy=>?_)⟩
     ·have:=h6 y hy;simp at this;exact this.1
     ·have:=h6 y hy;simp at this;exact this.2
    ·exact h.elim
   ·exact h.elim
  ·have io:∀(l:List (Nat×Operand)) (k:Nat),bq k (l.map fun p=>(p.1,bH st.sl p.2))=bq k l:=by
    intro l;induction l with
    |nil=>intro k;rfl
    |cons p l ih=>intro k;simp[bq,ih]
   cases hal:dR ((dB (bH st.sl) ps).map fun p=>p.2.nm)with
   |some ys0=>rw[hal]at h;exact U9 (by rw[ho];exact h)
   |none=>
    rw[hal]at h;simp only[MO]at h;unfold tY at h;split at h
    ·rename_i e sz bV ht;obtain⟨h1,h2,h3,h4,ys,aO,h5,h6,h7,h⟩:=h;refine⟨_,_,h,NB ho ht h1 (by rw[<-io];exact h2) (by simpa[dB]using h3) h4 (by simpa[dB,Function.comp_def]using h5) h6 (fun y hy b xs e=>?_)⟩;have:=h7 y hy;subst e;simpa[cF]using this
    ·exact h.elim
 ·rename_i t x ho;unfold slT at h;split at h
  ·rename_i id off hx;obtain⟨rfl,h⟩:=h;unfold slO at h;split at h
   ·rename_i ob m s ag hl hA;obtain⟨rfl,h⟩:=h;unfold slC at h;split at h
    ·rename_i zs hz;obtain⟨h1,h2,h3,h4,h⟩:=h;exact⟨_,_,h,OZ ho hx hl hA (GF hz) h1 h2 h3 h4⟩
    ·exact h.elim
   ·exact h.elim
  ·exact U9 (by rw[ho];exact h)
 ·rename_i t x hi mx ho;split at h
  ·unfold zA at h;split at h
   ·rename_i k1 h' k2 m' id f n s c hh hm hx;obtain⟨h1,rfl,rfl,rfl,h⟩:=h;unfold clO at h;split at h
    ·rename_i ob hl;obtain⟨h2,h⟩:=h;exact⟨_,_,h,VH ho hx h1 hl h2 hh hm⟩
    ·exact h.elim
   ·exact h.elim
  ·exact U9 (by rw[ho];exact h)
 ·rename_i s d x ho;unfold nL at h;split at h
  ·rename_i id f n z m hx;split at h
   ·obtain⟨h1,h2,l,h3,h4⟩:=h;exact⟨_,_,h4,LX ho hx h1 h2 h3⟩
   ·unfold Yi at h;split at h
    ·rename_i ob hl;obtain⟨rfl,h2,h3,h4,h5,h6⟩:=h;exact⟨_,_,h6,LW ho hx h2 hl h3 h4 h5⟩
    ·exact h.elim
  ·split at h
   ·unfold cvM at h;split at h
    ·rename_i b hb;unfold Yj at h;split at h
     ·rename_i el sz bV hel;obtain⟨h1,h2,rfl,h4,h5⟩:=h;exact⟨_,_,h5,H9 ho hb h1 h2 hel h4⟩
     ·exact h.elim
    ·exact h.elim
   ·refine U9 ?_;rw[ho];exact h
 ·rename_i t x ho;unfold loadT at h;split at h
  ·rename_i id off hx;split at h
   ·rename_i ob ag s hl ha hs;split at h
    ·rename_i y hp;exact⟨_,_,h,LY ho hx hl ha hs hp⟩
    ·exact h.elim
   ·exact h.elim
  ·refine U9 ?_;rw[ho];exact h
 ·rename_i t x y ho;unfold storeT at h;split at h
  ·rename_i id off zs hx hy;split at h
   ·rename_i ob hl;obtain⟨h1,h2,h⟩:=h;exact⟨_,_,h,Gf ho hx hl hy h1 h2⟩
   ·exact h.elim
  ·exact h.elim
 ·rename_i t x y ho;split at h
  ·unfold mkP at h;split at h
   ·rename_i e s bV hel;split at h
    ·rename_i kl n kc c hx hy;unfold Iw at h;split at h
     ·rename_i u hz;obtain⟨rfl,h2,rfl,h4,h5,h⟩:=h;exact⟨_,_,h,ahr ho hel hz (kl:=kl) (kc:=kc) (by rw[hx,Int.toNat_of_nonneg h2]) (by rw[hy,Int.toNat_of_nonneg h2]) h4 h5⟩
     ·exact h.elim
    ·exact h.elim
   ·exact h.elim
  ·unfold Yq at h;split at h
   ·rename_i e s bV hel;split at h
    ·rename_i kl n kc c z hx hy hz;obtain⟨h1,h2,h3,h4,h5,h⟩:=h;exact⟨_,_,h,ahs ho hel h1 hz (kl:=kl) (kc:=kc) (by rw[hx,Int.toNat_of_nonneg h2]) (by rw[hy,Int.toNat_of_nonneg (by omega)]) (by omega) h4 h5⟩
    ·exact h.elim
   ·exact h.elim
 ·rename_i c ho;split at h
  ·rename_i hc;obtain⟨ha,ht,h⟩:=h;have ea:=ur ha (.tmp 0);have et:=ur ht 0;generalize c.args.getD 0 (.tmp 0)=x at*;generalize c.args.getD 1 (.tmp 0)=y at*;generalize c.argTypes.getD 0 0=t at*;generalize c.argTypes.getD 1 0=u at*;unfold CT at h;split at h
   ·rename_i id f n s m hx;unfold Sg at h;split at h
    ·rename_i e s' bV hel;obtain⟨rfl,h⟩:=h;unfold EM at h;split at h
     ·rename_i ob _ hl;obtain⟨h1,h2,h⟩:=h;unfold MS at h;split at h
      ·obtain⟨j,zs,h3,h4⟩:=A9 h;rcases h3 with⟨h5,h⟩|⟨h5,h7,h8,h⟩
       ·exact⟨_,_,h,XW ho hc ea et hx hl h1 hel h2 h5 h4⟩
       ·exact⟨_,_,h,RW ho hc ea et hx hl hel h2 h4 h5 h7 h8⟩
      ·obtain⟨j,zs,⟨rfl,h5,h7,h8,h⟩,h4⟩:=A9 h;exact⟨_,_,h,XX ho hc ea et hx hl h1 h5 hel (by simpa using h2) h4 h7 h8⟩
     ·rename_i kd ob hu hl;obtain⟨h2,h⟩:=h;unfold EN at h;split at h
      ·rename_i vi j z hy hz;obtain⟨rfl,h8,h9,h3,h4,h6,h7,h⟩:=h;exact⟨_,_,h,Mh ho hc ea et hx hl h8 h9 hel h3 (by simpa using h2) hu hz (vi:=vi) (by rw[hy,Int.toNat_of_nonneg (by omega)]) (by omega) h6 h7⟩
      ·rename_i m' vi j z hy hz;obtain⟨h3,h4,h5,h6,h7,h⟩:=h;exact⟨_,_,h,Q9 ho hc ea et hx hl hel h3 h2 hu hz (vi:=vi) (by rw[hy,Int.toNat_of_nonneg (by omega)]) (by omega) h5 h6 h7⟩
      ·exact h.elim
     ·exact h.elim
    ·exact h.elim
   ·rename_i hnv;split at h
    ·unfold MR at h;split at h
     ·rename_i e s bV hel;obtain⟨h1,h⟩:=h;have hx:bH st.sl x= .full []\/bH st.sl x= .p .nil:=by
       unfold isNone at h1;split at h1
       ·rename_i hx;exact .inl hx
       ·rename_i hx;exact .inr hx
       ·exact h1.elim
      unfold xS at h;split at h
      ·rename_i kd hu;unfold zB at h;split at h
       ·rename_i vi j z hy hz;obtain⟨h3,h4,h6,h7,h⟩:=h;exact⟨_,_,h,Mj ho hc ea et hx hel h3 hu hz (vi:=vi) (by rw[hy,Int.toNat_of_nonneg (by omega)]) (by omega) h6 h7⟩
       ·exact h.elim
      ·obtain⟨j,zs,⟨h7,h8,h⟩,h4⟩:=A9 h;exact⟨_,_,h,XY ho hc ea et hx hel h4 h7 h8⟩
     ·exact h.elim
    unfold yM at h;split at h
    ·rename_i e sz bV hel;cases hX:C' st.tb.rw e sz (bH st.sl x)with
     |none=>rw[hX]at h;exact h.elim
     |some q=>
      obtain⟨dO,xs⟩:=q;rw[hX]at h;have hR:=zM hX;unfold E9 at h;simp only at h;split at h
      ·rename_i s hy;obtain⟨rfl,h1,h2,h3,h4,h⟩:=h;exact⟨_,_,h,zu ho hc ea et hel h1 h2 h3 h4 hy (by cases dO<;>exact hR)⟩
      ·rename_i ys hy;obtain⟨h1,h2,h3,h4,h5,h6,h⟩:=h;exact⟨_,_,h,sj ho hc ea et hel h1 h2 h3 h4 h5 h6 (.inl hy) (by cases dO<;>exact hR)⟩
      ·rename_i hy;obtain⟨h1,h2,h3,h4,h5,h6,h⟩:=h;exact⟨_,_,h,sj ho hc ea et hel h1 h2 h3 h4 h5 h6 (.inr ⟨rfl,hy⟩) (by cases dO<;>exact hR)⟩
      ·exact h.elim
    ·exact h.elim
  ·rename_i hc;obtain⟨ha,ht,h⟩:=h;have ea:=ur ha (.tmp 0);have et:=ur ht 0;generalize c.args.getD 0 (.tmp 0)=x at*;generalize c.args.getD 1 (.tmp 0)=y at*;generalize c.argTypes.getD 0 0=t at*;generalize c.argTypes.getD 1 0=u at*;unfold cpT at h;split at h
   ·rename_i id f n s m hx;obtain⟨h0,h⟩:=h;unfold cpO at h;split at h
    ·rename_i ob hl;obtain⟨h1,h⟩:=h;have ai0:x∈o.op.operands:=by rw[ho];simp[Op.operands,Call.operands,hc,ea]
     have pR:lk id (st.tb.aQ id {ob with xs:=bB (f*s) ob.xs}).bx=some {ob with xs:=bB (f*s) ob.xs}:=by simp[Tb.aQ,bg]
     have hfl:f*s<=(bB (f*s) ob.xs).length:=by rw[eH];omega
     unfold Zi at h;split at h
     ·rename_i id' f' n' s' m' hy;obtain⟨rfl,h⟩:=h;unfold cpG at h;split at h
      ·rename_i iz hl';exact⟨_,_,h.2,U6 ai0 hx hl h1 (SM (st:=⟨st.sl,_⟩) ho hc ea et hx pR h1 h0 hfl hy hl' rfl h.1)⟩
      ·exact h.elim
     ·split at h
      ·rename_i ys hy;obtain⟨h3,h4,h⟩:=h;exact⟨_,_,h,U6 ai0 hx hl h1 (SN (st:=⟨st.sl,_⟩) ho hc ea et hx pR h1 h0 hfl hy rfl h3 h4)⟩
      ·exact h.elim
    ·exact h.elim
   ·exact h.elim
  ·rename_i hc;obtain⟨ha,ht,h⟩:=h;have ea:=lD ha (.tmp 0);have et:=lD ht 0;generalize c.args.getD 0 (.tmp 0)=x at*;generalize c.argTypes.getD 0 0=t at*;unfold Yp at h;split at h
   ·rename_i e s bV hel;split at h
    ·rename_i id f n s' m z hx hz;obtain⟨rfl,h0,h⟩:=h;split at h
     ·rename_i ob hl;obtain⟨h1,h2,h⟩:=h;exact⟨_,_,h,Nz ho hc ea et hx hl h1 hel h0 hz h2⟩
     ·exact h.elim
    ·exact h.elim
   ·exact h.elim
  ·rename_i f hc;unfold uP at h;split at h
   ·rename_i gf caps hf;rcases h with⟨xs,hxs,r,h1,h2⟩|⟨ys,ts,r,ts',h1,h2,h3,h4,h5,h6⟩|⟨ys,r,n,h1,h2,h3,h4⟩|⟨rfl,⟨h1,h2,id,of,n,s,m,y,ob,h3,h4,h5,h6,Ci,h7⟩|⟨xs,r,h1,h2,h3⟩⟩
    ·exact⟨_,_,h2,dx.W2 (Kf ho hc hf (by rw[<-hxs,List.map_map];rfl) h1)⟩
    ·exact⟨_,_,h6,GC ho hc hf h1 h2 h3 h4 h5⟩
    ·exact⟨_,_,h4,QW ho hc hf h1 h2 h3⟩
    ·exact⟨_,_,h2,ag_ ho hc hf h1 h3 h4 h5 h6 Ci h7⟩
    ·exact⟨_,_,h3,ag' ho hc hf h2 (by rw[<-h1,List.map_map];rfl)⟩
   ·rename_i gf xs hf;obtain⟨ys,ts,r,ts',h1,h2,h3,h4,h5,h6⟩:=h;exact⟨_,_,h6,GD ho hc (.inl ⟨hf,h1⟩) h2 h3 h4 h5⟩
   ·rename_i gf xs hf;obtain⟨ys,ts,r,ts',h1,h2,h3,h4,h5,h6⟩:=h;exact⟨_,_,h6,GD ho hc (.inr ⟨hf,h1⟩) h2 h3 h4 h5⟩
   ·exact h.elim
  ·rename_i x name hc;unfold IA at h;split at h
   ·rename_i t av hf;unfold IB at h;split at h
    ·rename_i gf hm;obtain⟨ys,ts,r,ts',h1,h2,h3,h4,h5,h6⟩:=h;exact⟨_,_,h6,NM ho hc hf hm h1 (by simpa using h2) h3 h4 h5⟩
    ·exact h.elim
   ·exact h.elim
  ·exact U9 (by rw[ho];exact h)
 ·exact U9 h
end
end Go.Av
namespace Go.Av
open Go.RowKit
inductive iw where
 |q
 |r (l:Nat)
 |s (l:Nat) (keep:List Nat)
 |f (ls:List Nat)
 |w (keep:List Nat)
inductive OT where
 |lf
 |br (i:Nat) (sub It:OT)
 |one (i:Nat) (sub:OT)
structure Cx where
 md:List Nat
 cls:List (Nat×List (Nat×iw))
 lab:List (Nat×Nat)
 eW:Nat
 ot:List (Nat×OT)
def Cx.lb(cx:Cx)(l:Nat):Nat:=(lk l cx.lab).getD 0
def Cx.sC(cx:Cx)(d:Option Tmp):Bool:=match d with|some d=>cx.md.contains d|none=>false
def eO(m:List (Nat×iw))(i:Nat):iw:=(lk i m).getD .q
structure Fr where
 w0:World
 M0:Mem
 F:Nat->Prop
 g0:G
 n:Nat
 ds:List Deferred
def gO(fr:Fr)(st:AS)(a:Act)(w:World):Prop:=∃g,fr.g0.le g/\aR fr.w0 fr.M0 fr.F st.tb g w/\Hu st.sl g a/\a.tmps.size=fr.n/\a.defers=fr.ds
def aoh:AV->Option Bool
 | .p (.sc (.bool b))=>some b
 |_=>none
def qC(want:Bool):AV->Option Bool
 | .p (.sc (.bool b))=>some (b==want)
 | .agg true []=>some false
 |_=>none
def Nk:AV:= .agg true []
theorem Te{g:G}:aZ g undef Nk:= .o4 .nil
theorem Db{want:Bool}{x:AV}{b:Bool}(h:qC want x=some b):(∃c,x= .p (.sc (.bool c))/\b=(c==want))\/x=Nk/\b=false:=by
 unfold qC at h;split at h
 ·injection h with h;exact .inl ⟨_,rfl,h.symm⟩
 ·injection h with h;exact .inr ⟨rfl,h.symm⟩
 ·cases h
def gW(ops:Array Oper)(sl:Nat->AV)(o:Oper):Option Bool:=match o.guard with
 |none=>some true
 |some (j,want)=>match(ops[j]?).bind (·.dst)with
  |some d=>qC want (sl d)
  |none=>none
def lR(n:Nat)(o:Oper):Bool:=match o.dst with|some d=>decide (d<n)|none=>true
section
variable{P:Program}{fr:Fr}{ops:Array Oper}
theorem Hu.put{sl:Nat->AV}{g g':G}{a:Act}{o:Oper}{v:Value}{x:AV}{n:Nat}(h:Hu sl g a)(hg:g.le g')(hn:a.tmps.size=n)(hd:lR n o=true)(hx:aZ g' v x):Hu (eD sl o.dst x) g' (a.put o.dst v):=by
 intro t;unfold lR at hd;cases ho:o.dst with
 |none=>simpa[eD,Act.put]using(h t).mono hg
 |some d=>
  rw[ho]at hd;simp only[decide_eq_true_eq]at hd;simp only[eD,Act.put,rF];by_cases e:t=d
  ·subst e;simp[hn,hd];exact hx
  ·rw[if_neg e];have:=(h t).mono hg;simp only[Array.getD_eq_getD_getElem?]at this⊢;rw[Array.getElem?_setIfInBounds_ne (Ne.symm e)];exact this
theorem xK(a:Act)(d:Option Tmp)(v:Value):(a.put d v).tmps.size=a.tmps.size:=by cases d<;>simp[Act.put]
theorem A2(a:Act)(d:Option Tmp)(v:Value):(a.put d v).defers=a.defers:=by cases d<;>rfl
theorem kO{sl:Nat->AV}{g:G}{a:Act}{o:Oper}{b:Bool}(h:Hu sl g a)(hw:gW ops sl o=some b):Region.wanted o (yielded ops a.tmps)=b:=by
 unfold gW at hw;unfold Region.wanted;cases hg:o.guard with
 |none=>rw[hg]at hw;simpa using hw
 |some jw=>
  obtain⟨j,want⟩:=jw;rw[hg]at hw;simp only at hw⊢;cases hd:(ops[j]?).bind (·.dst)with
  |none=>rw[hd]at hw;cases hw
  |some d=>
   rw[hd]at hw;simp only at hw;have C_:=Db hw;have vf:∀v,a.tmps.getD d undef=v->v≠undef->a.tmps[d]?=some v:=fun v this hne=>by
    rw[Array.getD_eq_getD_getElem?]at this;cases hh:a.tmps[d]? with
    |none=>rw[hh]at this;exact absurd this.symm hne
    |some v=>rw[hh]at this;simpa using this
   have:=h d;rcases C_ with⟨c,hx,rfl⟩|⟨hx,rfl⟩
   ·rw[hx]at this;have:=bI this;have hy:yielded ops a.tmps j=some c:=by
     unfold yielded;rw[hd];simp only[Option.bind_some];rw[vf _ this (by simp[undef])]
    rw[hy];cases c<;>cases want<;>rfl
   ·rw[hx]at this;have hv:a.tmps.getD d undef= .tuple #[]:=by
     generalize a.tmps.getD d undef=v at this;cases this with
     |o4 hs=>cases hs;rfl
    have hy:yielded ops a.tmps j=none:=by
     unfold yielded;rw[hd];simp only[Option.bind_some];rw[Array.getD_eq_getD_getElem?]at hv;cases hh:a.tmps[d]? with
     |none=>rfl
     |some v=>rw[hh]at hv;simp at hv;subst hv;rfl
    rw[hy];rfl
theorem xZ{st:AS}{a:Act}{w:World}{o:Oper}(h:gO fr st a w)(hd:lR fr.n o=true):gO fr (st.put o.dst Nk) (a.put o.dst undef) w:=by
 obtain⟨g,h0,h1,h2,h3,h4⟩:=h;exact⟨g,h0,h1,h2.put (G.le_refl g) h3 hd Te,by rw[xK];exact h3,by rw[A2];exact h4⟩
theorem xY{st:AS}{a:Act}{w:World}{o:Oper}{x:AV}{aO:Tb}{K:Act->World->Prop}{Q:Exit->Act->World->Prop}(h:gO fr st a w)(hd:lR fr.n o=true)(hy:dx P st o x aO)(hK:∀a' w',gO fr ⟨eD st.sl o.dst x,aO⟩ a' w'->K a' w'):o.wp P a w K Q:=by
 obtain⟨g,h0,h1,h2,h3,h4⟩:=h;exact hy fr.w0 fr.M0 fr.F g a w h1 (fun t _=>h2 t) K Q fun v w' g' hM hw' hv=>hK _ _ ⟨g',h0.trans hM,hw',h2.put hM h3 hd hv,by rw[xK];exact h3,by rw[A2];exact h4⟩
def yx(P:Program)(cx:Cx)(ops:Array Oper)(K:AS->Prop):List Oper->AS->Prop
 |[],st=>K st
 |o::rest,st=>match gW ops st.sl o with
  |some true=>jx P (cx.sC o.dst) o.op (bH st.sl) st.tb fun x aO=>yx P cx ops K rest ⟨eD st.sl o.dst x,aO⟩
  |some false=>yx P cx ops K rest (st.put o.dst Nk)
  |none=>False
theorem oI{cx:Cx}{K:AS->Prop}{Q:Exit->Act->World->Prop}(hQ:∀st a w,K st->gO fr st a w->Q .normal a w):∀(l:List Oper) (st:AS),l.all (lR fr.n)=true->yx P cx ops K l st->∀a w,gO fr st a w->wpList P ops Q l a w
 |[],st,_,h,a,w,hs=>hQ st a w h hs
 |o::l,st,hd,h,a,w,hs=>by
  simp only[List.all_cons,Bool.and_eq_true]at hd;unfold yx at h;have Y0:=hs;obtain⟨g,_,_,h2,_,_⟩:=Y0;split at h
  ·rename_i hw;have hw:=kO h2 hw;unfold wpList;rw[if_pos hw];obtain⟨x,aO,hx,hy⟩:=vI h;exact .inl (xY hs hd.1 hy fun a' w' hs'=>oI hQ l _ hd.2 hx a' w' hs')
  ·rename_i hw;have hw:=kO h2 hw;unfold wpList;rw[if_neg (by rw[hw];exact Bool.false_ne_true)];exact oI hQ l _ hd.2 h _ _ (xZ hs hd.1)
  ·exact h.elim
def keeps(cx:Cx)(keep:List Nat)(tb aO:Tb):Prop:=∀l∈keep,lk (cx.lb l) aO.bx=lk (cx.lb l) tb.bx
def aja(cx:Cx)(ls:List Nat)(t u:Tb):Prop:=∀i,i∉ls.map cx.lb->lk i t.bx=lk i u.bx
structure Tb.eqv(t u:Tb):Prop where
 rw:t.rw=u.rw
 nx:t.nx=u.nx
 bx:∀i,lk i t.bx=lk i u.bx
theorem Tb.dJ(t:Tb):t.eqv t:=⟨rfl,rfl,fun _=>rfl⟩
theorem Tb.eqv.symm{t u:Tb}(h:t.eqv u):u.eqv t:=⟨h.rw.symm,h.nx.symm,fun i=>(h.bx i).symm⟩
theorem Tb.eqv.trans{t u v:Tb}(h:t.eqv u)(k:u.eqv v):t.eqv v:=⟨h.rw.trans k.rw,h.nx.trans k.nx,fun i=>(h.bx i).trans (k.bx i)⟩
theorem aR.eqv{w0:World}{M0:Mem}{F:Nat->Prop}{t u:Tb}{g:G}{w:World}(h:aR w0 M0 F t g w)(e:t.eqv u):aR w0 M0 F u g w:=h.sub (fun i o h=>by rw[e.bx i];exact h) (fun i r h=>by rw[e.rw];exact h) (Nat.le_of_eq e.nx)
theorem dx.eqv{sl:Nat->AV}{t u t' u':Tb}{o:Oper}{x:AV}(h:dx P ⟨sl,t⟩ o x t')(e:t.eqv u)(e':t'.eqv u'):dx P ⟨sl,u⟩ o x u':=fun w0 M0 F g a w hw ho K Q hK=>
 h w0 M0 F g a w (hw.eqv e.symm) ho K Q fun v w' g' h1 h2 h3=>hK v w' g' h1 (h2.eqv e') h3
theorem jP(t:Tb)(i j:Nat)(ob:Ob):lk i (t.aQ j ob).bx=if i=j then some ob else lk i t.bx:=by
 simp only[Tb.aQ,bg];split
 ·rfl
 ·rename_i h;rw[cD,if_neg h]
theorem I6{t u:Tb}(h:t.eqv u)(i:Nat)(ob:Ob):(t.aQ i ob).eqv (u.aQ i ob):=⟨h.rw,h.nx,fun j=>by rw[jP,jP,h.bx]⟩
def Yk(P:Program)(cx:Cx)(sl:Nat->AV)(tb:Tb)(o:Oper)(x:AV)(aO:Tb):iw->Prop
 | .q=>tb.eqv aO/\cO P sl o x
 | .r l=>tb.eqv aO/\∃ob,lk (cx.lb l) tb.bx=some ob/\∀t:Tb,lk (cx.lb l) t.bx=some ob->dx P ⟨sl,t⟩ o x t
 | .s l keep=>∃ob iz,lk (cx.lb l) tb.bx=some ob/\(tb.aQ (cx.lb l) iz).eqv aO/\keeps cx keep tb aO/\∀t:Tb,lk (cx.lb l) t.bx=some ob->dx P ⟨sl,t⟩ o x (t.aQ (cx.lb l) iz)
 | .f ls=>keeps cx ls tb aO/\∀t t':Tb,t.rw=tb.rw->t.nx=tb.nx->aja cx ls t tb->t'.rw=aO.rw->t'.nx=aO.nx->aja cx ls t' aO->keeps cx ls t t'->dx P ⟨sl,t⟩ o x t'
 | .w keep=>keeps cx keep tb aO/\dx P ⟨sl,tb⟩ o x aO
def k_:iw->iw->Bool
 | .q,_|_,.q=>false
 | .r _,.r _=>false
 | .r l,.s _ k| .r l,.w k| .s _ k,.r l| .w k,.r l=>!k.contains l
 | .r l,.f k| .f k,.r l| .s l _,.f k| .f k,.s l _=>!k.contains l
 |_,_=>true
theorem Yk.src{cx:Cx}{sl:Nat->AV}{tb u aO:Tb}{o:Oper}{x:AV}{c:iw}(h:Yk P cx sl tb o x aO c)(e:tb.eqv u):Yk P cx sl u o x aO c:=by
 cases c with
 |q=>exact⟨e.symm.trans h.1,h.2⟩
 |r l=>obtain⟨h0,ob,h1,h2⟩:=h;exact⟨e.symm.trans h0,ob,by rw[<-e.bx];exact h1,h2⟩
 |s l k=>
  obtain⟨ob,iz,h1,h2,h3,h4⟩:=h;exact⟨ob,iz,by rw[<-e.bx];exact h1,(I6 e.symm _ _).trans h2,fun l hl=>by rw[<-e.bx];exact h3 l hl,h4⟩
 |f ls=>
  refine⟨fun l hl=>by rw[<-e.bx];exact h.1 l hl,fun t t' h1 h2 h3 h4 h5 h6 h7=>h.2 t t' (h1.trans e.rw.symm) (h2.trans e.nx.symm) (fun i hi=>(h3 i hi).trans (e.bx i).symm) h4 h5 h6 h7⟩
 |w k=>exact⟨fun l hl=>by rw[<-e.bx];exact h.1 l hl,h.2.eqv e (Tb.dJ _)⟩
theorem Yk.tgt{cx:Cx}{sl:Nat->AV}{tb aO u':Tb}{o:Oper}{x:AV}{c:iw}(h:Yk P cx sl tb o x aO c)(e:aO.eqv u'):Yk P cx sl tb o x u' c:=by
 cases c with
 |q=>exact⟨h.1.trans e,h.2⟩
 |r l=>obtain⟨h0,ob,h1,h2⟩:=h;exact⟨h0.trans e,ob,h1,h2⟩
 |s l k=>
  obtain⟨ob,iz,h1,h2,h3,h4⟩:=h;exact⟨ob,iz,h1,h2.trans e,fun l hl=>by rw[<-e.bx];exact h3 l hl,h4⟩
 |f ls=>
  refine⟨fun l hl=>by rw[<-e.bx];exact h.1 l hl,fun t t' h1 h2 h3 h4 h5 h6 h7=>h.2 t t' h1 h2 h3 (h4.trans e.rw.symm) (h5.trans e.nx.symm) (fun i hi=>(h6 i hi).trans (e.bx i).symm) h7⟩
 |w k=>exact⟨fun l hl=>by rw[<-e.bx];exact h.1 l hl,h.2.eqv (Tb.dJ _) e⟩
theorem Yk.aoi{cx:Cx}{sl:Nat->AV}{tb aO:Tb}{o:Oper}{x:AV}{c:iw}(h:Yk P cx sl tb o x aO c):dx P ⟨sl,tb⟩ o x aO:=by
 cases c with
 |q=>obtain⟨e,h⟩:=h;exact(dx.W2 (st:=⟨sl,tb⟩) h).eqv (Tb.dJ _) e
 |r l=>obtain⟨e,ob,h1,h2⟩:=h;exact(h2 _ h1).eqv (Tb.dJ _) e
 |s l k=>obtain⟨ob,iz,h1,h2,h3,h4⟩:=h;exact(h4 _ h1).eqv (Tb.dJ _) h2
 |f ls=>exact h.2 tb aO rfl rfl (fun _ _=>rfl) rfl rfl (fun _ _=>rfl) h.1
 |w k=>exact h.2
theorem Yk.far{cx:Cx}{sl Bu:Nat->AV}{tb t1 t2:Tb}{o p:Oper}{x y:AV}{l:Nat}{keep ls:List Nat}(hl:l∈ls)(h:Yk P cx sl tb o x t1 (.s l keep))(k:Yk P cx Bu t1 p y t2 (.f ls)):∃t3,Yk P cx Bu tb p y t3 (.f ls)/\Yk P cx sl t3 o x t2 (.s l keep):=by
 obtain⟨ob,iz,h1,h2,h3,h4⟩:=h;have hk:keeps cx ls t1 t2:=k.1;have t1i:∀i,lk i t1.bx=if i=cx.lb l then some iz else lk i tb.bx:=fun i=>by rw[<-h2.bx i,jP]
 refine⟨⟨(cx.lb l,ob)::del (cx.lb l) t2.bx,t2.rw,t2.nx⟩,⟨?_,?_⟩,ob,iz,by simp[bg],?_,?_,h4⟩
 ·intro l' hl';show lk (cx.lb l') ((cx.lb l,ob)::del (cx.lb l) t2.bx)=_;rw[bg];split
  ·rename_i e;rw[e];exact h1.symm
  ·rename_i e;rw[cD,if_neg e,hk l' hl',t1i,if_neg e]
 ·intro t t' g1 g2 g3 g4 g5 g6 g7;refine k.2 t t' (g1.trans h2.rw) (g2.trans h2.nx) (fun i hi=>?_) g4 g5 (fun i hi=>?_) g7
  ·rw[g3 i hi,t1i,if_neg];intro e;exact hi (List.mem_map.2 ⟨l,hl,e.symm⟩)
  ·rw[g6 i hi];show lk i ((cx.lb l,ob)::del (cx.lb l) t2.bx)=_;have hne:i≠cx.lb l:=fun e=>hi (List.mem_map.2 ⟨l,hl,e.symm⟩);rw[bg,if_neg hne,cD,if_neg hne]
 ·refine⟨rfl,rfl,fun i=>?_⟩;rw[jP];show(if i=cx.lb l then some iz else lk i ((cx.lb l,ob)::del (cx.lb l) t2.bx))=_;split
  ·rename_i e;rw[e,hk l hl,t1i,if_pos rfl]
  ·rename_i e;rw[bg,if_neg e,cD,if_neg e]
 ·intro l' hl';show _=lk (cx.lb l') ((cx.lb l,ob)::del (cx.lb l) t2.bx);rw[bg];split
  ·rename_i e;have:=h3 l' hl';rw[t1i,if_pos e,e,h1]at this;rw[e,hk l hl,t1i,if_pos rfl];exact this
  ·rename_i e;rw[cD,if_neg e]
theorem Yk.aoj{cx:Cx}{sl Bu:Nat->AV}{tb t1 t2:Tb}{o p:Oper}{x y:AV}{l:Nat}{keep ls:List Nat}(hl:l∈ls)(h:Yk P cx sl tb o x t1 (.f ls))(k:Yk P cx Bu t1 p y t2 (.s l keep)):∃t3,Yk P cx Bu tb p y t3 (.s l keep)/\Yk P cx sl t3 o x t2 (.f ls):=by
 obtain⟨ob,iz,h1,h2,h3,h4⟩:=k;have hk:keeps cx ls tb t1:=h.1;have t2i:∀i,lk i t2.bx=if i=cx.lb l then some iz else lk i t1.bx:=fun i=>by rw[<-h2.bx i,jP]
 have hold:lk (cx.lb l) tb.bx=some ob:=by rw[<-hk l hl];exact h1
 refine⟨tb.aQ (cx.lb l) iz,⟨ob,iz,hold,Tb.dJ _,fun l' hl'=>?_,h4⟩,fun l' hl'=>?_,?_⟩
 ·rw[jP];split
  ·rename_i e;have:=h3 l' hl';rw[t2i,if_pos e,e,h1]at this;rw[e,hold];exact this
  ·rfl
 ·rw[t2i,jP];split
  ·rfl
  ·exact hk l' hl'
 ·intro t t' g1 g2 g3 g4 g5 g6 g7;refine h.2 t t' g1 g2 (fun i hi=>?_) (g4.trans h2.rw.symm) (g5.trans h2.nx.symm) (fun i hi=>?_) g7
  ·have hne:i≠cx.lb l:=fun e=>hi (List.mem_map.2 ⟨l,hl,e.symm⟩);rw[g3 i hi,jP,if_neg hne]
  ·have hne:i≠cx.lb l:=fun e=>hi (List.mem_map.2 ⟨l,hl,e.symm⟩);rw[g6 i hi,t2i,if_neg hne]
theorem Yk.comm{cx:Cx}{sl Bu:Nat->AV}{tb t1 t2:Tb}{o p:Oper}{x y:AV}{c d:iw}(hc:k_ c d=false)(h:Yk P cx sl tb o x t1 c)(k:Yk P cx Bu t1 p y t2 d):∃t3,Yk P cx Bu tb p y t3 d/\Yk P cx sl t3 o x t2 c:=by
 by_cases hq:d= .q
 ·subst hq;obtain⟨e,k⟩:=k;exact⟨tb,⟨Tb.dJ _,k⟩,h.tgt e⟩
 cases c with
 |q=>
  obtain⟨e,h⟩:=h;exact⟨t2,k.src e.symm,Tb.dJ _,h⟩
 |r l=>
  obtain⟨e,ob,h1,h2⟩:=h;refine⟨t2,k.src e.symm,Tb.dJ _,ob,?_,h2⟩;have gD:lk (cx.lb l) t1.bx=some ob:=by rw[<-e.bx];exact h1
  cases d with
  |q=>exact absurd rfl hq
  |r m=>rw[<-k.1.bx];exact gD
  |s m kp=>obtain⟨_,_,_,_,kk,_⟩:=k;rw[kk l (by simpa[k_]using hc)];exact gD
  |f ls=>rw[k.1 l (by simpa[k_]using hc)];exact gD
  |w kp=>rw[k.1 l (by simpa[k_]using hc)];exact gD
 |s l kp=>
  cases d with
  |q=>exact absurd rfl hq
  |r m=>
   obtain⟨ek,ob2,k1,k2⟩:=k;refine⟨tb,⟨Tb.dJ _,ob2,?_,k2⟩,h.tgt ek⟩;obtain⟨_,_,_,_,kk,_⟩:=h;rw[<-kk m (by simpa[k_]using hc)];exact k1
  |s _ _=>simp[k_]at hc
  |f ls=>exact Yk.far (by simpa[k_]using hc) h k
  |w _=>simp[k_]at hc
 |f ls=>
  cases d with
  |q=>exact absurd rfl hq
  |r m=>
   obtain⟨ek,ob2,k1,k2⟩:=k;refine⟨tb,⟨Tb.dJ _,ob2,?_,k2⟩,h.tgt ek⟩;rw[<-h.1 m (by simpa[k_]using hc)];exact k1
  |s l kp=>exact Yk.aoj (by simpa[k_]using hc) h k
  |f _=>simp[k_]at hc
  |w _=>simp[k_]at hc
 |w kp=>
  cases d with
  |q=>exact absurd rfl hq
  |r m=>
   obtain⟨ek,ob2,k1,k2⟩:=k;refine⟨tb,⟨Tb.dJ _,ob2,?_,k2⟩,h.tgt ek⟩;rw[<-h.1 m (by simpa[k_]using hc)];exact k1
  |s _ _=>simp[k_]at hc
  |f _=>simp[k_]at hc
  |w _=>simp[k_]at hc
theorem dx.congr{sl Bu:Nat->AV}{tb aO:Tb}{o:Oper}{x:AV}(h:dx P ⟨sl,tb⟩ o x aO)(hs:∀t,Operand.tmp t∈o.op.operands->Bu t=sl t):dx P ⟨Bu,tb⟩ o x aO:=fun w0 M0 F g a w hw ho K Q hK=>h w0 M0 F g a w hw (fun t ht=>by have:=ho t ht;simp only at this⊢;rw[<-hs t ht];exact this) K Q hK
theorem cO.congr{sl Bu:Nat->AV}{o:Oper}{x:AV}(h:cO P sl o x)(hs:∀t,Operand.tmp t∈o.op.operands->Bu t=sl t):cO P Bu o x:=fun w0 M0 F tb g a w hw ho K Q hK=>h w0 M0 F tb g a w hw (fun t ht=>by rw[<-hs t ht];exact ho t ht) K Q hK
theorem Yk.congr{cx:Cx}{sl Bu:Nat->AV}{tb aO:Tb}{o:Oper}{x:AV}{c:iw}(h:Yk P cx sl tb o x aO c)(hs:∀t,Operand.tmp t∈o.op.operands->Bu t=sl t):Yk P cx Bu tb o x aO c:=by
 cases c with
 |q=>exact⟨h.1,h.2.congr hs⟩
 |r l=>obtain⟨e,ob,h1,h2⟩:=h;exact⟨e,ob,h1,fun t e=>(h2 t e).congr hs⟩
 |s l k=>obtain⟨ob,iz,h1,h2,h3,h4⟩:=h;exact⟨ob,iz,h1,h2,h3,fun t e=>(h4 t e).congr hs⟩
 |f ls=>exact⟨h.1,fun t t' g1 g2 g3 g4 g5 g6 g7=>(h.2 t t' g1 g2 g3 g4 g5 g6 g7).congr hs⟩
 |w k=>exact⟨h.1,h.2.congr hs⟩
theorem GI(sl:Nat->AV)(d:Option Tmp)(x:AV){t:Tmp}(h:d≠some t):eD sl d x t=sl t:=by
 cases d with
 |none=>rfl
 |some e=>simp only[eD,rF];rw[if_neg (fun he=>h (by rw[he]))]
theorem I7(sl:Nat->AV){x y:Option Tmp}(v u:AV)(h:∀d,x=some d->y≠some d):eD (eD sl x v) y u=eD (eD sl y u) x v:=by
 cases x with
 |none=>rfl
 |some d=>
  cases y with
  |none=>rfl
  |some e=>simp only[eD];rw[KN _ _ _ fun he=>h d rfl (by rw[he])]
theorem Dc{o o':Oper}(hap:∀d,o'.dst=some d->d∉o.looksAt ops)(sl:Nat->AV)(y:AV):∀t,Operand.tmp t∈o.op.operands->eD sl o'.dst y t=sl t:=fun t ht=>
 GI _ _ _ fun he=>hap t he (List.mem_append_left _ (List.mem_filterMap.2 ⟨.tmp t,by simpa using ht,rfl⟩))
theorem uX{sl:Nat->AV}{o:Oper}{d:Option Tmp}{y:AV}(hap:∀e,d=some e->e∉o.looksAt ops):gW ops (eD sl d y) o=gW ops sl o:=by
 unfold gW;cases hg:o.guard with
 |none=>rfl
 |some jw=>
  obtain⟨j,want⟩:=jw;simp only;cases ht:(ops[j]?).bind (·.dst)with
  |none=>rfl
  |some t=>
   simp only;rw[GI _ _ _ fun he=>hap t he (by simp[Oper.looksAt,hg,ht])]
def lu(P:Program)(cx:Cx)(ops:Array Oper)(c:iw)(o:Oper)(x:AV)(sl:Nat->AV)(tb aO:Tb):Prop:=(gW ops sl o=some true/\Yk P cx sl tb o x aO c)\/(gW ops sl o=some false/\x=Nk/\aO=tb)
theorem lu.congr{cx:Cx}{c:iw}{o o':Oper}{x y:AV}{sl:Nat->AV}{tb aO:Tb}(h:lu P cx ops c o x sl tb aO)(hap:∀d,o'.dst=some d->d∉o.looksAt ops):lu P cx ops c o x (eD sl o'.dst y) tb aO:=by
 unfold lu at*;rw[uX hap];exact h.imp (fun⟨a,b⟩=>⟨a,b.congr (Dc hap sl y)⟩) id
theorem lu.Tf{cx:Cx}{c:iw}{o o':Oper}{x y:AV}{sl:Nat->AV}{tb aO:Tb}(h:lu P cx ops c o x (eD sl o'.dst y) tb aO)(hap:∀d,o'.dst=some d->d∉o.looksAt ops):lu P cx ops c o x sl tb aO:=by
 unfold lu at*;rw[uX hap]at h;exact h.imp (fun⟨a,b⟩=>⟨a,b.congr fun t ht=>(Dc hap sl y t ht).symm⟩) id
theorem lu.comm{cx:Cx}{c d:iw}{o p:Oper}{x y:AV}{sl:Nat->AV}{tb t1 t2:Tb}(hc:k_ c d=false)(hap:o.apart ops p=true)(h:lu P cx ops c o x sl tb t1)(k:lu P cx ops d p y (eD sl o.dst x) t1 t2):∃t3,lu P cx ops d p y sl tb t3/\lu P cx ops c o x (eD sl p.dst y) t3 t2:=by
 obtain⟨h1,h2,h3⟩:=Oper.apart_spec hap;have k':=k.Tf h1;rcases h with⟨hw,hy⟩|⟨hw,rfl,rfl⟩
 ·rcases k' with⟨kw,ky⟩|⟨kw,rfl,rfl⟩
  ·obtain⟨t3,e1,e2⟩:=hy.comm hc ky;exact⟨t3,.inl ⟨kw,e1⟩,lu.congr (.inl ⟨hw,e2⟩) h3⟩
  ·exact⟨tb,.inr ⟨kw,rfl,rfl⟩,lu.congr (.inl ⟨hw,hy⟩) h3⟩
 ·exact⟨t2,k',lu.congr (.inr ⟨hw,rfl,rfl⟩) h3⟩
def Nn(P:Program)(cx:Cx)(m:List (Nat×iw))(ops:Array Oper)(i:Nat)(K:AS->Prop)(st:AS):Prop:=match ops[i]? with
 |none=>K st
 |some o=>∃x aO,lu P cx ops (eO m i) o x st.sl st.tb aO/\K ⟨eD st.sl o.dst x,aO⟩
def k9(P:Program)(cx:Cx)(m:List (Nat×iw))(ops:Array Oper)(K:AS->Prop):Nat->Array Bool->AS->Prop
 |0,listed,st=>Region.ready .any ops listed=[]/\K st
 |fuel+1,listed,st=>
  (Region.ready .any ops listed=[]->K st)/\
  ∀i∈Region.ready .any ops listed,Nn P cx m ops i (k9 P cx m ops K fuel (listed.setIfInBounds i true)) st
theorem Dd{cx:Cx}{m:List (Nat×iw)}{i:Nat}{st:AS}{a:Act}{w:World}{K:AS->Prop}{K':Act->World->Prop}{Q:Exit->Act->World->Prop}(hd:ops.all (lR fr.n)=true)(hs:gO fr st a w)(hK:∀st a w,K st->gO fr st a w->K' a w)(h:Nn P cx m ops i K st):wpOp P ops Q i K' a w:=by
 unfold Nn at h;unfold wpOp;cases ho:ops[i]? with
 |none=>rw[ho]at h;exact hK _ _ _ h hs
 |some o=>
  rw[ho]at h;simp only at h⊢;have SU:lR fr.n o=true:=by
   have:=Array.all_eq_true.1 hd;obtain⟨hi,e⟩:=Array.getElem?_eq_some_iff.1 ho;rw[<-e];exact this i hi
  have Y0:=hs;obtain⟨g,_,_,h2,_,_⟩:=Y0;obtain⟨x,aO,⟨hw,hy⟩|⟨hw,rfl,rfl⟩,hk⟩:=h
  ·rw[if_pos (kO h2 hw)];exact .inl (xY (st:=st) hs SU hy.aoi fun a' w' hs'=>hK _ _ _ hk hs')
  ·rw[if_neg (by rw[kO h2 hw];exact Bool.false_ne_true)];exact hK _ _ _ hk (xZ hs SU)
theorem qE{cx:Cx}{m:List (Nat×iw)}{K:AS->Prop}{Q:Exit->Act->World->Prop}(hd:ops.all (lR fr.n)=true)(hQ:∀st a w,K st->gO fr st a w->Q .normal a w):∀(fuel:Nat) (listed:Array Bool) (st:AS),k9 P cx m ops K fuel listed st->∀a w,gO fr st a w->wpAny P .any ops Q fuel listed a w
 |0,_,_,h,a,w,hs=>⟨h.1,hQ _ _ _ h.2 hs⟩
 |fuel+1,_,_,h,a,w,hs=>⟨fun h0=>hQ _ _ _ (h.1 h0) hs,fun i hi=>Dd hd hs (fun st a w h' hs'=>qE hd hQ fuel _ st h' a w hs') (h.2 i hi)⟩
def dep(ops:Array Oper)(i:Nat):Nat->Nat->Bool
 |0,_=>false
 |f+1,j=>match ops[j]? with
  |some o=>o.after.any fun e=>Region.binds .any e&&(e.on==i||dep ops i f e.on)
  |none=>false
def Down(ops:Array Oper)(listed:Array Bool):Prop:=∀j oj,ops[j]?=some oj->listed.getD j false=true->∀e∈oj.after,Region.binds .any e=true->listed.getD e.on false=true
theorem ym{listed:Array Bool}(hD:Down ops listed){i:Nat}:∀(f j:Nat),(∀oj,ops[j]?=some oj->∀e∈oj.after,Region.binds .any e=true->listed.getD e.on false=true)->dep ops i f j=true->listed.getD i false=true
 |0,_,_,h=>by simp[dep]at h
 |f+1,j,hj,h=>by
  unfold dep at h;split at h
  ·rename_i o ho;obtain⟨e,he,h⟩:=Array.any_eq_true'.1 h;simp only[Bool.and_eq_true,Bool.or_eq_true,beq_iff_eq]at h;obtain⟨hb,h⟩:=h;have h1:=hj o ho e he hb;rcases h with h|h
   ·rw[<-h];exact h1
   ·exact ym hD f e.on (fun ok hk=>hD e.on ok hk h1) h
  ·cases h
theorem Down.set{listed:Array Bool}(hD:Down ops listed){i:Nat}(hi:i∈Region.ready .any ops listed):Down ops (listed.setIfInBounds i true):=by
 have up:∀k,listed.getD k false=true->(listed.setIfInBounds i true).getD k false=true:=fun k hk=>by
  by_cases hik:i=k
  ·subst hik;rcases Nat.lt_or_ge i listed.size with h'|h'
   ·simp[h']
   ·simp[Array.getElem?_eq_none h']at hk
  ·rw[getD_set_ne false hik];exact hk
 intro j oj hj hl e he hb;obtain⟨_,oi,hoi,hall⟩:=mem_ready.1 hi;by_cases hij:i=j
 ·subst hij;rw[hj]at hoi;injection hoi with hoi;subst hoi;exact up _ (hall e he hb)
 ·rw[getD_set_ne false hij]at hl;exact up _ (hD j oj hj hl e he hb)
theorem sF{cx:Cx}{m:List (Nat×iw)}{K:AS->Prop}{i:Nat}{oi:Oper}{x:AV}(hi:ops[i]?=some oi)(N:Nat):∀(fuel:Nat) (listed:Array Bool) (st:AS) (aO:Tb),Down ops listed->(∀j oj,ops[j]?=some oj->j≠i->listed.getD j true=false->(∀e∈oj.after,Region.binds .any e=true->e.on≠i)->oi.apart ops oj=true)->(∀j oj,ops[j]?=some oj->j≠i->listed.getD j true=false->k_ (eO m i) (eO m j)=true->dep ops i N j=true)->i∈Region.ready .any ops listed->lu P cx ops (eO m i) oi x st.sl st.tb aO->k9 P cx m ops K fuel (listed.setIfInBounds i true) ⟨eD st.sl oi.dst x,aO⟩->k9 P cx m ops K (fuel+1) listed st:=by
 have first:∀{st:AS} {aO:Tb} {K':AS->Prop},lu P cx ops (eO m i) oi x st.sl st.tb aO->K' ⟨eD st.sl oi.dst x,aO⟩->Nn P cx m ops i K' st:=fun hy hk=>by
  unfold Nn;rw[hi];exact⟨x,_,hy,hk⟩
 intro fuel
 induction fuel with
 |zero=>
  intro listed st aO _ _ _ hr hy H;refine⟨fun h=>(by rw[h]at hr;cases hr),fun j hj=>?_⟩;by_cases hji:j=i
  ·subst hji;exact first hy H
  ·have:=ready_mono hj hji;rw[H.1]at this;cases this
 |succ fuel ih=>
  intro listed st aO hD hfree U_ hr hy H;refine⟨fun h=>(by rw[h]at hr;cases hr),fun j hj=>?_⟩;by_cases hji:j=i
  ·subst hji;exact first hy H
  ·have h1:=H.2 j (ready_mono hj hji);obtain⟨Tg,oj,hoj,hall⟩:=mem_ready.1 hj;have Zv:=(mem_ready.1 hr).1;have U':listed.getD i false=true->False:=fun h1=>by
    rcases Nat.lt_or_ge i listed.size with h'|h'
    ·simp[h']at Zv h1;rw[Zv]at h1;cases h1
    ·simp[Array.getElem?_eq_none h']at Zv
   have hnot:∀e∈oj.after,Region.binds .any e=true->e.on≠i:=fun e he hb heq=>U' (heq▸hall e he hb);have hcf:k_ (eO m i) (eO m j)=false:=by
    cases hc:k_ (eO m i) (eO m j)with
    |false=>rfl
    |true=>
     have hd:=U_ j oj hoj hji Tg hc;exact(U' (ym hD N j (fun ok hk e he hb=>by rw[hoj]at hk;injection hk with hk;subst hk;exact hall e he hb) hd)).elim
   unfold Nn at h1;rw[hoj]at h1;obtain⟨u,t2,hu,hk⟩:=h1;obtain⟨t3,e1,e2⟩:=lu.comm hcf (hfree j oj hoj hji Tg hnot) hy hu;unfold Nn;rw[hoj];refine⟨u,t3,e1,?_⟩;have lift:∀k,(listed.setIfInBounds j true).getD k true=false->listed.getD k true=false:=fun k hun=>by
    by_cases hjk:j=k
    ·subst hjk;exact Tg
    ·rw[getD_set_ne true hjk]at hun;exact hun
   refine ih (listed.setIfInBounds j true) ⟨eD st.sl oj.dst u,t3⟩ t2 (hD.set hj) (fun k ok hk hki hun hno=>hfree k ok hk hki (lift k hun) hno) (fun k ok hk hki hun hc=>U_ k ok hk hki (lift k hun) hc) (ready_mono hr (Ne.symm hji)) e2 ?_;obtain⟨p1,p2,p3⟩:=Oper.apart_spec (hfree j oj hoj hji Tg hnot);have hk':k9 P cx m ops K fuel ((listed.setIfInBounds i true).setIfInBounds j true) ⟨eD (eD st.sl oi.dst x) oj.dst u,t2⟩:=hk;rw[I7 st.sl x u p2,Array.setIfInBounds_comm _ _ (Ne.symm hji)]at hk';exact hk'
end
end Go.Av
