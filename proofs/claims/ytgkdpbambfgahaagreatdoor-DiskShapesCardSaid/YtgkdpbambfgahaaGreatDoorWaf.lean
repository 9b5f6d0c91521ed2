/- DiskShapes, part 6: an abstract interpreter over any program's form, with its proof of soundness; no condition. -/
import Derived.Test.YtgkdpbambfgahaaGreatDoorWae
set_option linter.all false
set_option maxRecDepth 100000
set_option maxHeartbeats 64000000
namespace Go.Av
open Go.RowKit
section
variable{P:Program}{st:AS}{o:Oper}
theorem OM(n:Nat)(u:Value):(List.replicate n (PC.sc u)).flatMap aU=(List.replicate n (PC.sc u)).map .p:=by
 induction n with
 |zero=>rfl
 |succ n ih=>rw[List.replicate_succ,List.flatMap_cons,ih];rfl
theorem ad0{t e:TypeId}{x y:Operand}{bT n:Nat}{kl kc:IntKind}{u:Value}(ho:o.op= .makeSlice t x y)(ht:cU P t=some (e,1,bT))(hz:bG P e=some [.sc u])(hx:(bE st.sl x).nm= .p (.sc (.int kl n)))(hy:(bE st.sl y).nm= .p (.sc (.int kc n)))(hb:bT*n<=281474976710656)(hc:n<=maxLen):dA P st o (.p (.sl (List.replicate n (.sc u)))) ⟨st.tb.bx,st.tb.rw,st.tb.nx+2⟩:=by
 intro w0 M0 F g a w hw h K Q hK;refine ad1 ho ht (by omega) hz hx hy (Nat.le_refl n) hb hc w0 M0 F g a w hw h K Q ?_;intro v w' g' hle hS hv;rw[OO]at hS;have hold:∀i p,lk i st.tb.bx=some p->i≠st.tb.nx:=fun i p e=>by
  obtain⟨b,c,e1,_⟩:=hw.boxes i p e;have:=hw.AF e1;omega
 cases hv with
 |view e0 h3 h4 h5 hm=>
  rename_i b c au;obtain rfl:c=n:=hm n rfl;have hl:lk st.tb.nx (st.tb.aS ⟨e,1,(List.replicate c (PC.sc u)).map .p⟩).bx=some ⟨e,1,(List.replicate c (PC.sc u)).map .p⟩:=by simp[Tb.aS,lk]
  cases h5 with
  |void hz0 uV=>
   subst hz0;refine hK _ _ g' hle (hS.sub (fun i p hp=>?_) (fun _ _ h=>h) (by simp[Tb.aS])) ?_
   ·simp only[Tb.aS,lk];rw[if_neg (hold i p hp)];exact hp
   ·rcases uV with rfl|⟨a',rfl⟩
    ·exact .p .cX
    ·exact .p (.rH a')
  |real off g_ had h5=>
   subst had;obtain rfl:off=0:=by have:=h5 (.inr rfl);simpa using this
   obtain⟨N,k1,k2,k3⟩:=hS.xC (n:=c) (ys:=List.replicate c (.sc u)) hl e0 g_ (by show 0<1;omega) (Nat.le_refl _) (by simp) (by
    rw[OM];exact fY (by simp)) (by simp) (fun y hy=>by rw[(List.mem_replicate.1 hy).2];rfl) (fun y hy=>by rw[(List.mem_replicate.1 hy).2];rfl)
   have FF:(st.tb.aS ⟨e,1,(List.replicate c (PC.sc u)).map .p⟩).nx=st.tb.nx+1:=rfl;refine hK _ w' ((g'.with N).cY (st.tb.aS ⟨e,1,(List.replicate c (PC.sc u)).map .p⟩).nx (.slice (some ⟨b,0,none⟩) c c)) (hle.trans ⟨k1,fun _ _ h=>h,fun i p h=>by have:=hS.oc h;simp only[G.cY,G.with];rw[if_neg (by omega)];exact h⟩) (k2.sub (aM:=⟨st.tb.bx,st.tb.rw,st.tb.nx+2⟩) (fun i p hp=>?_) (fun i p hp=>?_) (by simp[Tb.bU,Tb.cD,Tb.aS])) (.p k3)
   ·simp only[Tb.bU,Tb.cD,Tb.aS,cu];rw[if_neg (hold i p hp),a_,if_neg (hold i p hp)];exact hp
   ·simp only[Tb.bU,Tb.cD,a_];split
    ·rename_i hi;subst hi;obtain⟨v',q1,_⟩:=hw.rows _ p.1 p.2 hp;have:=hw.oc q1;have e2:(st.tb.aS ⟨e,1,(List.replicate c (PC.sc u)).map .p⟩).nx=st.tb.nx+1:=rfl;omega
    ·exact hp
end
def JK(tb:Tb)(aM:Tb):AV->PC->Prop
 | .view id o n s _,.sl ys=>∃ob,lk id tb.bx=some ob/\o=0/\ob.sz=s/\0<s/\n*s<=ob.xs.length/\ob.xs.take (n*s)=ys.flatMap aU/\ys.length=n/\(∀y∈ys,y.width=s)/\(∀y∈ys,cw y=true)/\aM=⟨del id tb.bx,tb.rw,tb.nx+1⟩
 |x,y=>x.pc=some y/\aM=tb
def Ni(tb aM:Tb):List AV->List PC->Prop
 |[],[]=>aM=tb
 |x::xs,y::ys=>∃t,JK tb t x y/\Ni t aM xs ys
 |_,_=>False
def Nh(tb aM:Tb):AV->PC->Prop
 | .agg false xs,.agg false ys=>Ni tb aM xs ys
 |x,y=>JK tb aM x y
def yK(tb aM:Tb):List AV->List PC->Prop
 |[],[]=>aM=tb
 |x::xs,y::ys=>∃t,Nh tb t x y/\yK t aM xs ys
 |_,_=>False
section
variable{P:Program}{st:AS}{o:Oper}{w0:World}{M0:Mem}{F:Nat->Prop}{g:G}{w:World}
theorem IF{tb aM:Tb}{x:AV}{y:PC}{v:Value}(hw:aQ w0 M0 F tb g w)(hv:aX g v x)(h:JK tb aM x y):∃g',g.le g'/\aQ w0 M0 F aM g' w/\gO g'.M v y:=by
 unfold JK at h;split at h
 ·rename_i id o n s m ys;obtain⟨ob,hl,rfl,hsz,hs,hx,hc,hy,hw',ht,rfl⟩:=h;subst hsz;have hdel:∀i p,lk i (del id tb.bx)=some p->lk i tb.bx=some p:=fun i p h=>by
   rw[cu]at h;split at h
   ·cases h
   ·exact h
  cases hv with
  |view e h3 h4 h5 hm=>
   rename_i b c au;cases h5 with
   |void hz uV=>
    subst hz;have hn0:n=0:=by omega
    subst hn0;have:ys=[]:=mB hy;subst this;refine⟨g,G.le_refl g,hw.sub hdel (fun _ _ h=>h) (Nat.le_succ _),?_⟩;rcases uV with rfl|⟨a',rfl⟩
    ·exact .cX
    ·exact .rH a'
   |real off g_ had h5=>
    subst had;obtain rfl:off=0:=by have:=h5 (.inr rfl);simpa using this
    obtain⟨N,k1,k2,k3⟩:=hw.xC hl e g_ hs (by omega) hx hc hy hw' ht;refine⟨_,?_,k2.sub (aM:=⟨del id tb.bx,tb.rw,tb.nx+1⟩) (fun i p h=>h) (fun i p h=>?_) (Nat.le_refl _),k3⟩
    ·exact⟨k1,fun _ _ h=>h,fun i p h=>by have:=hw.oc h;simp only[G.cY,G.with];rw[if_neg (by omega)];exact h⟩
    ·simp only[Tb.bU,Tb.cD,a_];split
     ·rename_i hi;subst hi;obtain⟨v',q1,_⟩:=hw.rows tb.nx p.1 p.2 h;have:=hw.oc q1;omega
     ·exact h
 ·obtain⟨h1,rfl⟩:=h;exact⟨g,G.le_refl g,hw,oX hv _ h1⟩
theorem IG:∀{tb aM:Tb} {g:G} (xs:List AV) {ys:List PC} {vs:List Value},aQ w0 M0 F tb g w->aJ g vs xs->Ni tb aM xs ys->∃g',g.le g'/\aQ w0 M0 F aM g' w/\cJ g'.M vs ys
 |tb,aM,g,[],ys,vs,hw,hv,h=>by
  cases ys with
  |nil=>unfold Ni at h;subst h;cases hv;exact⟨g,G.le_refl g,hw,.nil⟩
  |cons y ys=>exact h.elim
 |tb,aM,g,x::xs,ys,vs,hw,hv,h=>by
  cases ys with
  |nil=>exact h.elim
  |cons y ys=>
   obtain⟨t,h1,h2⟩:=h;cases hv with
   |cons a as=>
    obtain⟨g1,k1,k2,k3⟩:=IF hw a h1;obtain⟨g2,l1,l2,l3⟩:=IG xs k2 (as.mono k1) h2;exact⟨g2,k1.trans l1,l2,.cons (k3.mono l1.M) l3⟩
theorem T6{tb aM:Tb}{x:AV}{y:PC}{v:Value}(hw:aQ w0 M0 F tb g w)(hv:aX g v x)(h:Nh tb aM x y):∃g',g.le g'/\aQ w0 M0 F aM g' w/\gO g'.M v y:=by
 unfold Nh at h;split at h
 ·cases hv with
  |agg hs h1=>
   obtain⟨g',k1,k2,k3⟩:=IG _ hw hs h;exact⟨g',k1,k2,.agg k3 h1⟩
 ·exact IF hw hv h
theorem II:∀{tb aM:Tb} {g:G} (xs:List AV) {ys:List PC} {vs:List Value},aQ w0 M0 F tb g w->aJ g vs xs->yK tb aM xs ys->∃g',g.le g'/\aQ w0 M0 F aM g' w/\cJ g'.M vs ys
 |tb,aM,g,[],ys,vs,hw,hv,h=>by
  cases ys with
  |nil=>unfold yK at h;subst h;cases hv;exact⟨g,G.le_refl g,hw,.nil⟩
  |cons y ys=>exact h.elim
 |tb,aM,g,x::xs,ys,vs,hw,hv,h=>by
  cases ys with
  |nil=>exact h.elim
  |cons y ys=>
   obtain⟨t,h1,h2⟩:=h;cases hv with
   |cons a as=>
    obtain⟨g1,k1,k2,k3⟩:=T6 hw a h1;obtain⟨g2,l1,l2,l3⟩:=II xs k2 (as.mono k1) h2;exact⟨g2,k1.trans l1,l2,.cons (k3.mono l1.M) l3⟩
theorem E5:∀{tb aM:Tb} (xs:List AV) (ys:List PC),yK tb aM xs ys->ys.length=xs.length
 |_,_,[],[],_=>rfl
 |_,_,x::xs,y::ys,⟨_,_,h⟩=>by simp[E5 xs ys h]
 |_,_,[],_::_,h=>h.elim
 |_,_,_::_,[],h=>h.elim
theorem PV{t e:TypeId}{sz bT n:Nat}{ps:Array (Nat×Operand)}{ys:List PC}{aM:Tb}(ho:o.op= .buildSlice t n ps)(ht:cU P t=some (e,sz,bT))(hsz:0<sz)(Qw:bt 0 ps.toList=true)(hn:ps.size=n)(oS:n*sz<=16777216)(hys:yK st.tb aM (ps.toList.map fun p=>bE st.sl p.2) ys)(hw':∀y∈ys,y.width=sz)(h1:∀y∈ys,∀b xs,y= .agg b xs->b=false):dA P st o (.full ys) aM:=bK fun w0 M0 F g a w hw h=>by
 have MG:aJ g ((ps.toList.map (·.2)).map a.eval) ((ps.toList.map (·.2)).map (bE st.sl)):=jz (ps.toList.map (·.2)) fun y hy=>h y (by rw[ho];simpa[Op.operands]using hy);obtain⟨g1,gl,hw1,hr⟩:=II _ hw MG (by rw[List.map_map];exact hys);have jm:=dc hr hw';have qz:(((ps.map fun(i,x)=>(i,a.eval x)).toList).map (·.2))=(ps.toList.map (·.2)).map a.eval:=by simp
 have Gz:bt 0 ((ps.map fun(i,x)=>(i,a.eval x)).toList)=true:=by
  have key:∀(l:List (Nat×Operand)) (k:Nat),bt k l=true->bt k (l.map fun p=>(p.1,a.eval p.2))=true:=by
   intro l
   induction l with
   |nil=>intro k _;rfl
   |cons p l ih=>intro k hk;simp only[bt,Bool.and_eq_true,List.map_cons]at hk⊢;exact⟨hk.1,ih _ hk.2⟩
  have:=key ps.toList 0 Qw;simpa using this
 have hrun:=j8 (P:=P) (w:=w) (n:=n) ht Gz (by simp[hn]) oS hsz (by rw[qz];exact jm);rw[qz]at hrun;have hone:∀u∈cellsOf ((ps.toList.map (·.2)).map a.eval),u.oneCell'=true:=by
  have key:∀{us:List Value} {ys:List PC},cJ g1.M us ys->(∀y∈ys,∀b xs,y= .agg b xs->b=false)->∀u∈cellsOf us,u.oneCell'=true:=by
   intro us ys hr
   induction us generalizing ys with
   |nil=>intro _ u hu;simp[cellsOf]at hu
   |cons v us ih=>
    intro hb u hu;cases hr with
    |cons hv hr=>
     rename_i y ys;simp only[cellsOf,List.flatMap_cons,iR]at hu;rcases hu with hu|hu
     ·have hby:=hb y (by simp);by_cases hp:y.plain=true
      ·obtain⟨e1,e2⟩:=iI hv hp;rw[e1]at hu;simp at hu;subst hu;exact e2
      ·cases y with
       |agg b xs=>
        have:=hby b xs rfl;subst this;cases hv with
        |agg hs h1=>exact h1 u (by simpa[Value.cells]using hu)
       |_=>simp[PC.plain]at hp
     ·exact ih hr (fun y hy=>hb y (by simp[hy])) u hu
  exact key hr h1
 obtain⟨e1,e2,e3,e4,e5⟩:=B5 hw1 (cellsOf ((ps.toList.map (·.2)).map a.eval)) e (0,0);have hlen:ys.length=n:=by have:=E5 _ _ hys;simpa[hn]using this
 refine⟨.slice (some ⟨w.heap.size,0,none⟩) n n,_,_,?_,?_,hw1.later e1 e2 e3 e4,?_⟩
 ·have GA:ps.map (fun(p:Nat×Operand)=>(p.1,a.eval p.2))=((ps.map fun(i,x)=>(i,a.eval x)).toList).toArray:=by apply Array.ext';simp
  simp only[execOp,ho,Sem.run_bind];have ze:(Instr.buildSlice t n (ps.map fun(x:Nat×Operand)=>(x.1,a.eval x.2))).run P w= .ok (.slice (some ⟨w.heap.size,0,none⟩) n n) (w.alloc (.cells (cellsOf ((ps.toList.map (·.2)).map a.eval)).toArray e)):=by rw[GA];exact hrun
  rw[ze];rfl
 ·exact gl.trans ⟨e1,fun _ _ h=>h,fun _ _ h=>h⟩
 ·refine .full (.sl (sz:=sz) (by have:=hr.length;omega) (Nat.le_refl _) ?_ hsz jm hone e5 (hr.mono e1));have:n*1<=n*sz:=Nat.mul_le_mul_left _ hsz;have Jm:n*sz<=16777216:=oS;unfold maxLen;omega
end
def AV.Ua(x y:AV):Prop:=y=x\/(∃p,x.pc=some p/\(y= .p p\/y= .p p.wk))\/(x= .p .nil/\y= .full [])\/∃id o n s m,x= .view id o n s m/\y= .view id o n s none
mutual
def AV.to:AV->AV->Prop
 | .agg t xs,.agg t' ys=>t=t'/\toAll xs ys
 |x,y=>x.Ua y
def toAll:List AV->List AV->Prop
 |[],[]=>True
 |x::l,y::m=>x.to y/\toAll l m
 |_,_=>False
end
theorem iz{g:G}{v:Value}{x y:AV}(h:aX g v x)(e:x.Ua y):aX g v y:=by
 rcases e with rfl|⟨p,e,rfl|rfl⟩|⟨rfl,rfl⟩|⟨id,o,n,s,m,rfl,rfl⟩
 ·exact h
 ·exact .p (oX h p e)
 ·exact .p (FW (oX h p e))
 ·cases h with|p h=>cases h;exact .full .cX
 ·cases h with|view e h1 h2 h3 _=>exact .view e h1 h2 h3 (fun _ h=>by cases h)
mutual
theorem C3{g:G}:∀{v:Value} (x:AV) {y:AV},aX g v x->x.to y->aX g v y
 |v,.agg t xs,y,h,e=>by
  by_cases hy:∃t' ys,y= .agg t' ys
  ·obtain⟨t',ys,rfl⟩:=hy;simp only[AV.to]at e;obtain⟨rfl,e⟩:=e;cases h with
   |agg hs h1=>exact .agg (fJ xs hs e) h1
   |qi hs=>exact .qi (fJ xs hs e)
  ·refine iz h ?_;unfold AV.to at e;split at e
   ·exact absurd ⟨_,_,rfl⟩ hy
   ·exact e
 |v,.p x,y,h,e=>iz h (by unfold AV.to at e;exact e)
 |v,.obj i o,y,h,e=>iz h (by unfold AV.to at e;exact e)
 |v,.own i o,y,h,e=>iz h (by unfold AV.to at e;exact e)
 |v,.full x,y,h,e=>iz h (by unfold AV.to at e;exact e)
 |v,.nn x,y,h,e=>iz h (by unfold AV.to at e;exact e)
 |v,.view a b c d f,y,h,e=>iz h (by unfold AV.to at e;exact e)
 |v,.lJ f x,y,h,e=>iz h (by unfold AV.to at e;exact e)
 |v,.mE f x,y,h,e=>iz h (by unfold AV.to at e;exact e)
 |v,.mW f x,y,h,e=>iz h (by unfold AV.to at e;exact e)
 |v,.any,y,h,e=>iz h (by unfold AV.to at e;exact e)
theorem fJ{g:G}:∀{vs:List Value} (xs:List AV) {ys:List AV},aJ g vs xs->toAll xs ys->aJ g vs ys
 |_,[],ys,h,e=>by
  cases ys with
  |nil=>exact h
  |cons y ys=>simp[toAll]at e
 |_,x::xs,ys,h,e=>by
  cases ys with
  |nil=>simp[toAll]at e
  |cons y ys=>
   simp only[toAll]at e;cases h with|cons h1 hs=>exact .cons (C3 x h1 e.1) (fJ xs hs e.2)
end
def vG(P:Program)(gf:FuncId)(caps:List PC)(args:List AV)(tb:Tb)(k:AV->Tb->Prop):Prop:=∃ys ts r ts',toAll args ys/\aE P gf (ys++caps.map .p) ts r ts'/\ay tb.bx ts.bx/\ay tb.rw ts.rw/\ts.nx=tb.nx/\k r (tb.merge ts ts')
def qF(P:Program)(gf:FuncId)(xs:List AV)(tb:Tb)(k:AV->Tb->Prop):Prop:=∃ys ts r ts',toAll xs ys/\aE P gf ys ts r ts'/\ay tb.bx ts.bx/\ay tb.rw ts.rw/\ts.nx=tb.nx/\k r (tb.merge ts ts')
def wQ(P:Program)(args:List AV)(tb:Tb)(k:AV->Tb->Prop):AV->Prop
 | .p (.fn (.func gf) caps)=>(∃xs,dV (args.map AV.nm)=some xs/\zC P gf (xs.map PC.wk++caps) fun r=>k r tb)\/vG P gf caps args tb k\/N_ P gf caps args tb k\/(caps=[]/\adL P gf args tb k)
 | .lJ (.func gf) xs=>qF P gf (args++xs) tb k
 | .mE (.func gf) xs=>qF P gf (xs++args) tb k
 |_=>False
def wR(P:Program)(t:TypeId)(name:String):Option FuncId:=match P.info? t with
 |some i=>match i.methods.find? (·.name==name),P.underlying t with
  |some m,some (.pointer _)=>if m.path.isEmpty=true then(match m.func with|some (f,true)=>some f|_=>none)else none
  |_,_=>none
 |none=>none
def KP(P:Program)(x:AV)(args:List AV)(tb:Tb)(k:AV->Tb->Prop):Option FuncId->Prop
 |some gf=>vG P gf [] (x::args) tb k
 |none=>False
def KO(P:Program)(name:String)(args:List AV)(tb:Tb)(k:AV->Tb->Prop):AV->Prop
 | .mW t x=>KP P x args tb k (wR P t name)
 |_=>False
def loadT(P:Program)(t:TypeId)(tb:Tb)(k:AV->Tb->Prop):AV->Prop
 | .obj id off=>match lk id tb.bx,bL P t,aO P t with
  |some ob,some ag,some s=>(match ku off s ag ob.xs with
   |some y=>k y tb
   |none=>False)
  |_,_,_=>False
 |x=>vW P t (fun y=>k y tb) x.nm
def storeT(P:Program)(t:TypeId)(tb:Tb)(k:AV->Tb->Prop)(x y:AV):Prop:=match x,y.cR with
 | .obj id off,some zs=>match lk id tb.bx with
  |some ob=>aO P t=some zs.length/\off+zs.length<=ob.xs.length/\k .any (tb.aP id {ob with xs:=ob.xs.take off++zs++ob.xs.drop (off+zs.length)})
  |none=>False
 |_,_=>False
def E_(rw:List (Nat×TypeId×Nat))(e:TypeId)(sz:Nat):AV->Option (Option Nat×List PC)
 | .own id xs=>if lk id rw=some (e,sz)then some (some id,xs)else none
 | .full xs=>some (none,xs)
 | .p .nil=>some (none,[])
 |_=>none
def afC(rw:List (Nat×TypeId×Nat))(e:TypeId)(sz:Nat)(x:AV)(xs:List PC):Option Nat->Prop
 |none=>x= .full xs\/xs=[]/\x= .p .nil
 |some id=>x= .own id xs/\lk id rw=some (e,sz)
theorem BA{rw:List (Nat×TypeId×Nat)}{e:TypeId}{sz:Nat}{x:AV}{dX:Option Nat}{xs:List PC}(h:E_ rw e sz x=some (dX,xs)):afC rw e sz x xs dX:=by
 unfold E_ at h;split at h
 ·split at h
  ·rename_i hl;injection h with h;injection h with h1 h2;subst h1;subst h2;exact⟨rfl,hl⟩
  ·cases h
 ·injection h with h;injection h with h1 h2;subst h1;subst h2;exact .inl rfl
 ·injection h with h;injection h with h1 h2;subst h1;subst h2;exact .inr ⟨rfl,rfl⟩
 ·cases h
def P2(P:Program)(u:TypeId)(e:TypeId)(sz bT:Nat)(dX:Option Nat)(xs:List PC)(tb:Tb)(k:AV->Tb->Prop)(ys:List PC):Prop:=0<sz/\(aH P u).isSome=true/\(∀x∈xs,x.width=sz)/\(∀y∈ys,y.width=sz)/\(xs.length+ys.length)*bT<=140737488355328/\xs.length+ys.length<=9223372036854775807/\k (.own tb.nx (xs++ys)) (pL tb dX e sz)
def akt(P:Program)(u:TypeId)(e:TypeId)(sz bT:Nat)(dX:Option Nat)(xs:List PC)(tb:Tb)(k:AV->Tb->Prop)(s:ByteArray):Prop:=sz=1/\isStr P u=true/\(∀x∈xs,x.width=1)/\(xs.length+(bs s).length)*bT<=140737488355328/\xs.length+(bs s).length<=9223372036854775807/\k (.own tb.nx (xs++af (bs s))) (pL tb dX e 1)
def Hf(P:Program)(u:TypeId)(e:TypeId)(sz bT:Nat)(tb:Tb)(k:AV->Tb->Prop)(y:AV):Option (Option Nat×List PC)->Prop
 |some (dX,xs)=>match y with
  | .p (.sc (.string s))=>akt P u e sz bT dX xs tb k s
  | .p (.sl ys)=>P2 P u e sz bT dX xs tb k ys
  | .p .nil=>P2 P u e sz bT dX xs tb k []
  |_=>False
 |none=>False
def Aq(P:Program)(u:TypeId)(tb:Tb)(k:AV->Tb->Prop)(x y:AV):Option (TypeId×Nat×Nat)->Prop
 |some (e,sz,bT)=>Hf P u e sz bT tb k y (E_ tb.rw e sz x)
 |none=>False
def GU(P:Program)(t:TypeId)(tb:Tb)(k:AV->Tb->Prop)(x:AV):Prop:=match x.cR with
 |some zs=>k (.obj tb.nx 0) (tb.aS ⟨t,zs.length,zs⟩)
 |none=>False
def zy(P:Program)(tb:Tb)(k:AV->Tb->Prop):Option (List PC)->TypeId->Prop
 |some zs,t=>k (.obj tb.nx 0) (tb.aS ⟨t,zs.length,zs.map .p⟩)
 |none,_=>False
def mkT(P:Program)(tb:Tb)(k:AV->Tb->Prop)(x y:AV):Option (TypeId×Nat×Nat)->Prop
 |some (e,s,bT)=>match x,y,bG P e with
  | .p (.sc (.int _ n)),.p (.sc (.int _ c)),some z=>0<s/\0<=n/\n<=c/\bT*c.toNat<=281474976710656/\c.toNat<=maxLen/\k (.view tb.nx 0 n.toNat s (some c.toNat)) (tb.aS ⟨e,s,(fW c.toNat z).map .p⟩)
  |_,_,_=>False
 |none=>False
def KL(tb:Tb)(k:AV->Tb->Prop)(n c:Int)(bT s:Nat):Option (List PC)->Prop
 |some [.sc u]=>s=1/\0<=n/\n=c/\bT*n.toNat<=281474976710656/\n.toNat<=maxLen/\k (.p (.sl (List.replicate n.toNat (.sc u)))) ⟨tb.bx,tb.rw,tb.nx+2⟩
 |_=>False
def mkP(P:Program)(tb:Tb)(k:AV->Tb->Prop)(x y:AV):Option (TypeId×Nat×Nat)->Prop
 |some (e,s,bT)=>match x,y with
  | .p (.sc (.int _ n)),.p (.sc (.int _ c))=>KL tb k n c bT s (bG P e)
  |_,_=>False
 |none=>False
def cpG(tb1:Tb)(k:AV->Tb->Prop)(id f n s:Nat)(ob:Ob)(n' f':Nat):Option Ob->Prop
 |some jh=>(f'+Nat.min n' n)*s<=jh.xs.length/\k (.p (.int (Nat.min n' n:Nat))) (tb1.aP id {ob with xs:=ob.xs.take (f*s)++(jh.xs.drop (f'*s)).take (Nat.min n' n*s)++ob.xs.drop (f*s+Nat.min n' n*s)})
 |none=>False
def Zy(tb1:Tb)(k:AV->Tb->Prop)(id f n s:Nat)(ob:Ob):AV->Prop
 | .view id' f' n' s' _=>s'=s/\cpG tb1 k id f n s ob n' f' (lk id' tb1.bx)
 |y=>(match y.nm with
  | .p (.sl ys)=>(∀y∈ys,y.width=s)/\(∀y∈ys,cw y=true)/\k (.p (.int (Nat.min ys.length n:Nat))) (tb1.aP id {ob with xs:=ob.xs.take (f*s)++(ys.take (Nat.min ys.length n)).flatMap aU++ob.xs.drop (f*s+Nat.min ys.length n*s)})
  |_=>False)
def cpO(tb:Tb)(k:AV->Tb->Prop)(id f n s:Nat)(y:AV):Option Ob->Prop
 |some ob=>ob.sz=s/\Zy (tb.aP id {ob with xs:=bB (f*s) ob.xs}) k id f n s {ob with xs:=bB (f*s) ob.xs} y
 |none=>False
def cpT(tb:Tb)(k:AV->Tb->Prop)(es:Option Nat):AV->AV->Prop
 | .view id f n s _,y=>es=some s/\cpO tb k id f n s y (lk id tb.bx)
 |_,_=>False
def YH(P:Program)(tb:Tb)(k:AV->Tb->Prop)(x:AV):Option (TypeId×Nat×Nat)->Prop
 |some (e,s,_)=>match x,bG P e with
  | .view id f n s' _,some z=>s'=s/\0<s/\(match lk id tb.bx with
   |some ob=>ob.sz=s/\f*s<=ob.xs.length/\k .any (tb.aP id {ob with xs:=ob.xs.take (f*s)++(fW n z).map .p++ob.xs.drop (f*s+n*s)})
   |none=>False)
  |_,_=>False
 |none=>False
def Pg(tb:Tb)(k:AV->Tb->Prop)(id f n s m bT:Nat)(e:TypeId)(ob:Ob)(j:Nat)(zs:List AV):Prop:=(f+n+j<=m/\k (.view id f (n+j) s (some m)) (tb.aP id {ob with xs:=ob.xs.take ((f+n)*s)++zs++ob.xs.drop ((f+n)*s+j*s)}))\/(m-f<n+j/\(n+j)*bT<=140737488355328/\n+j<=9223372036854775807/\k (.view tb.nx 0 (n+j) s none) (tb.aS ⟨e,s,(ob.xs.drop (f*s)).take (n*s)++zs⟩))
def Ph(tb:Tb)(k:AV->Tb->Prop)(id f n s bT:Nat)(e:TypeId)(ob:Ob)(j:Nat)(zs:List AV):Prop:=f=0/\ob.el=e/\(n+j)*bT<=140737488355328/\n+j<=9223372036854775807/\k (.view tb.nx 0 (n+j) s none) ((tb.cD id).aS ⟨e,s,ob.xs.take (n*s)++zs⟩)
def Pf(P:Program)(u:TypeId)(tb:Tb)(k:AV->Tb->Prop)(id f n s bT:Nat)(e:TypeId)(ob:Ob)(y:AV):Option Nat->Prop
 |some m=>pW P tb u s (Pg tb k id f n s m bT e ob) y
 |none=>pW P tb u s (Ph tb k id f n s bT e ob) y
def GX(P:Program)(tb:Tb)(k:AV->Tb->Prop)(id f n s bT:Nat)(e:TypeId)(ob:Ob):Option Nat->AV->Option (List PC)->Prop
 |none,.p (.sc (.int _ j)),some z=>f=0/\ob.sz=s/\ob.el=e/\0<s/\0<j/\(n+j.toNat)*bT<=140737488355328/\n+j.toNat<=9223372036854775807/\k (.view tb.nx 0 (n+j.toNat) s none) ((tb.cD id).aS ⟨e,s,ob.xs.take (n*s)++(fW j.toNat z).map .p⟩)
 |some m,.p (.sc (.int _ j)),some z=>0<s/\0<j/\m-f<n+j.toNat/\(n+j.toNat)*bT<=140737488355328/\n+j.toNat<=9223372036854775807/\k (.view tb.nx 0 (n+j.toNat) s none) (tb.aS ⟨e,s,(ob.xs.drop (f*s)).take (n*s)++(fW j.toNat z).map .p⟩)
 |_,_,_=>False
def GV(P:Program)(u:TypeId)(tb:Tb)(k:AV->Tb->Prop)(id f n s:Nat)(m:Option Nat)(bT:Nat)(e:TypeId)(y:AV):Option IntKind->Option Ob->Prop
 |none,some ob=>ob.sz=s/\(f+n)*s<=ob.xs.length/\Pf P u tb k id f n s bT e ob y m
 |some _,some ob=>(f+n)*s<=ob.xs.length/\GX P tb k id f n s bT e ob m y.nm (bG P e)
 |_,none=>False
def TA(P:Program)(u:TypeId)(tb:Tb)(k:AV->Tb->Prop)(id f n s:Nat)(m:Option Nat)(y:AV):Option (TypeId×Nat×Nat)->Prop
 |some (e,s',bT)=>s'=s/\GV P u tb k id f n s m bT e y (Av.intOf P u) (lk id tb.bx)
 |none=>False
def Pj(tb:Tb)(k:AV->Tb->Prop)(s bT:Nat)(e:TypeId)(j:Nat)(zs:List AV):Prop:=j*bT<=140737488355328/\j<=9223372036854775807/\k (.view tb.nx 0 j s none) (tb.aS ⟨e,s,zs⟩)
def Bp(tb:Tb)(k:AV->Tb->Prop)(s bT:Nat)(e:TypeId):AV->Option (List PC)->Prop
 | .p (.sc (.int _ j)),some z=>0<s/\0<j/\j.toNat*bT<=140737488355328/\j.toNat<=9223372036854775807/\k (.view tb.nx 0 j.toNat s none) (tb.aS ⟨e,s,(fW j.toNat z).map .p⟩)
 |_,_=>False
def zA(P:Program)(u:TypeId)(tb:Tb)(k:AV->Tb->Prop)(s bT:Nat)(e:TypeId)(y:AV):Option IntKind->Prop
 |some _=>Bp tb k s bT e y.nm (bG P e)
 |none=>pW P tb u s (Pj tb k s bT e) y
def isNone:AV->Prop
 | .full []=>True
 | .p .nil=>True
 |_=>False
def Pe(P:Program)(u:TypeId)(tb:Tb)(k:AV->Tb->Prop)(x y:AV):Option (TypeId×Nat×Nat)->Prop
 |some (e,s,bT)=>isNone x/\zA P u tb k s bT e y (Av.intOf P u)
 |none=>False
def ET(P:Program)(md:Bool)(u:TypeId)(tb:Tb)(k:AV->Tb->Prop)(el:Option (TypeId×Nat×Nat)):AV->AV->Prop
 | .view id f n s m,y=>TA P u tb k id f n s m y el
 |x,y=>if md=true then Pe P u tb k x y el else Aq P u tb k x y.nm el
def Pc(P:Program)(t:TypeId)(n:Nat)(tb:Tb)(k:AV->Tb->Prop):AV->Prop
 | .full ys=>match cU P t with
  |some (e,sz,_)=>k (.view tb.nx 0 n sz (some n)) (tb.aS ⟨e,sz,ys.flatMap aU⟩)
  |none=>False
 |_=>False
def cvV(P:Program)(s d:TypeId)(tb:Tb)(k:AV->Tb->Prop)(x:AV):Prop:=dR P s=true/\isStr P d=true/\∃l:List UInt8,cQ tb.bx 1 x (.sl (af l))/\k (.p (.str l)) tb
def YB(P:Program)(s d:TypeId)(tb:Tb)(k:AV->Tb->Prop)(x:AV)(id n:Nat):Option Ob->Prop
 |some ob=>s=d/\dR P d=true/\ob.el<1000000/\0<ob.xs.length/\0<n/\k x (tb.aP id {ob with el:=ob.el+1000000})
 |none=>False
def YC(P:Program)(s d:TypeId)(tb:Tb)(k:AV->Tb->Prop)(b:ByteArray):Option (TypeId×Nat×Nat)->Prop
 |some (el,sz,_)=>isStr P s=true/\dR P d=true/\sz=1/\(bs b).length<=9223372036854775807/\k (.view tb.nx 0 (bs b).length 1 none) (tb.aS ⟨el+1000000,1,(af (bs b)).map .p⟩)
 |none=>False
def cvM(P:Program)(s d:TypeId)(tb:Tb)(k:AV->Tb->Prop):AV->Prop
 | .p (.sc (.string b))=>YC P s d tb k b (cU P d)
 |_=>False
def oG(P:Program)(md:Bool)(s d:TypeId)(tb:Tb)(k:AV->Tb->Prop):AV->Prop
 | .view id f n z m=>if isStr P d=true then cvV P s d tb k (.view id f n z m)else YB P s d tb k (.view id f n z m) id n (lk id tb.bx)
 |x=>if md=true then cvM P s d tb k x.nm else oh P s d (fun y=>k y tb) x.nm
def KJ(e:TypeId)(sz n:Nat)(tb:Tb)(k:AV->Tb->Prop):Option (List AV)->Prop
 |some zs=>k (.view tb.nx 0 n sz (some n)) (tb.aS ⟨e,sz,zs⟩)
 |none=>False
def KI(_t:TypeId)(n:Nat)(tb:Tb)(k:AV->Tb->Prop)(ps:List (Nat×AV)):Option (TypeId×Nat×Nat)->Prop
 |some (e,sz,_)=>0<sz/\bt 0 ps=true/\ps.length=n/\n*sz<=16777216/\KJ e sz n tb k (nc sz (ps.map (·.2)))
 |none=>False
def wP(P:Program)(t:TypeId)(n:Nat)(tb:Tb)(k:AV->Tb->Prop)(ps:List (Nat×AV)):Option (List PC)->Prop
 |some _=>zc P t n (Pc P t n tb k) ps
 |none=>KI t n tb k ps (cU P t)
def vE(n:Nat)(tb:Tb)(k:AV->Tb->Prop)(ps:List (Nat×AV)):Option (TypeId×Nat×Nat)->Prop
 |some (_,sz,_)=>0<sz/\bt 0 ps=true/\ps.length=n/\n*sz<=16777216/\∃ys aM,yK tb aM (ps.map (·.2)) ys/\(∀y∈ys,y.width=sz)/\(∀y∈ys,cw y=true)/\k (.full ys) aM
 |none=>False
def Pb(P:Program)(t:TypeId)(n:Nat)(tb:Tb)(k:AV->Tb->Prop)(q:Prop)(ps:List (Nat×AV)):Option (List PC)->Prop
 |some _=>q
 |none=>vE n tb k ps (cU P t)
def slC(tb:Tb)(k:AV->Tb->Prop)(id m sz:Nat):Option (List PC)->Prop
 |some zs=>sz=m/\zs.length=m/\0<m/\m<=maxLen/\k (.full zs) ⟨del id tb.bx,tb.rw,tb.nx+1⟩
 |none=>False
def slO(tb:Tb)(k:AV->Tb->Prop)(id:Nat):Option Ob->Option (Nat×Nat×Bool)->Prop
 |some ob,some (m,s,_)=>s=1/\slC tb k id m ob.sz (dV ob.xs)
 |_,_=>False
def slT(P:Program)(t:TypeId)(tb:Tb)(k:AV->Tb->Prop)(q:Prop):AV->Prop
 | .obj id off=>off=0/\slO tb k id (lk id tb.bx) (ic P t)
 |_=>q
def clO(tb:Tb)(k:AV->Tb->Prop)(id n s:Nat):Option Ob->Prop
 |some ob=>ob.sz=s/\k (.view tb.nx 0 n s (some n)) ((tb.cD id).aS ⟨ob.el,ob.sz,ob.xs.take (n*s)⟩)
 |none=>False
def Bo(P:Program)(t:TypeId)(tb:Tb)(k:AV->Tb->Prop):AV->AV->AV->Prop
 | .p (.sc (.int _ h)),.p (.sc (.int _ m)),.view id f n s _=>aH P t=some s/\f=0/\h=(n:Int)/\m=(n:Int)/\clO tb k id n s (lk id tb.bx)
 |_,_,_=>False
def kP(P:Program)(md:Bool)(op:Op)(e:Operand->AV)(tb:Tb)(k:AV->Tb->Prop):Prop:=match op with
 | .box t x=>if md=true then GU P t tb k (e x)else h_ P (.box t x) e fun y=>k y tb
 | .alloc t=>zy P tb k (bG P t) t
 | .buildSlice t n ps=>if md=true then wP P t n tb k (dF e ps) (dV ((dF e ps).map fun p=>p.2.nm))else Pb P t n tb k (h_ P (.buildSlice t n ps) e fun y=>k y tb) (dF e ps) (dV ((dF e ps).map fun p=>p.2.nm))
 | .slice t x none none none=>slT P t tb k (h_ P (.slice t x none none none) e fun y=>k y tb) (e x)
 | .slice t x none (some hi) (some mx)=>if md=true then Bo P t tb k (e hi).nm (e mx).nm (e x)else h_ P (.slice t x none (some hi) (some mx)) e fun y=>k y tb
 | .convert s d x=>oG P md s d tb k (e x)
 | .load t x=>loadT P t tb k (e x)
 | .store t x y=>storeT P t tb k (e x) (e y)
 | .makeSlice t x y=>if md=true then mkP P tb k (e x).nm (e y).nm (cU P t)else mkT P tb k (e x).nm (e y).nm (cU P t)
 | .call c=>match c.callee with
  | .builtin .append=>c.args.size=2/\c.argTypes.size=2/\ET P md (c.argTypes.getD 1 0) tb k (cU P (c.argTypes.getD 0 0)) (e (c.args.getD 0 (.tmp 0))) (e (c.args.getD 1 (.tmp 0)))
  | .builtin .copy=>c.args.size=2/\c.argTypes.size=2/\cpT tb k (aH P (c.argTypes.getD 0 0)) (e (c.args.getD 0 (.tmp 0))) (e (c.args.getD 1 (.tmp 0)))
  | .builtin .clear=>c.args.size=1/\c.argTypes.size=1/\YH P tb k (e (c.args.getD 0 (.tmp 0))) (cU P (c.argTypes.getD 0 0))
  | .value f=>wQ P (c.args.toList.map e) tb k (e f).nm
  | .invoke x name=>KO P name (c.args.toList.map e) tb k (e x)
  |_=>h_ P (.call c) e fun y=>k y tb
 |op=>h_ P op e fun y=>k y tb
section
variable{P:Program}{st:AS}{o:Oper}
theorem IQ{c:Call}{f:Operand}{gf:FuncId}{caps:List PC}{ys:List AV}{ts ts':Tb}{r:AV}(ho:o.op= .call c)(hc:c.callee= .value f)(hf:(bE st.sl f).nm= .p (.fn (.func gf) caps))(hx:toAll (c.args.toList.map (bE st.sl)) ys)(hp:aE P gf (ys++caps.map .p) ts r ts')(hb:ay st.tb.bx ts.bx)(hr:ay st.tb.rw ts.rw)(hn:ts.nx=st.tb.nx):dA P st o r (st.tb.merge ts ts'):=by
 intro w0 M0 F g a w hw hop K Q hK;have qj:∀y,y∈o.op.operands->aX g (a.eval y) (bE st.sl y):=fun y hy=>iZ y fun t e=>hop t (e▸hy);have h1:=bP (qj f (by rw[ho];simp[Op.operands,Call.operands,hc]));rw[hf]at h1;have gQ:=aZ h1;generalize hv:a.eval f=v at gQ;cases gQ with
 |fn og=>
  rename_i cv;have hargs:=jz (g:=g) (a:=a) (sl:=st.sl) c.args.toList (fun y hy=>qj y (by rw[ho];simp[Op.operands,Call.operands,hc];exact Or.inr (by simpa using hy)));have hall:=(fJ _ hargs hx).append (jZ og);have hrun:(execOp a.eval o).run P w= .ok (.enter gf ((c.args.toList.map a.eval)++cv).toArray) w:=by
   simp[execOp,ho,resolve,hc,hv,Deferred.ofValue,invoke,gj hp.1]
  unfold Oper.wp;rw[hrun];refine(hp.2 g w _ _ (hw.part hb hr hn) hall).mono ?_;rintro e' w' ⟨v',g',rfl,hle,hS,hr'⟩;exact hK v' w' g' hle (hw.back hb hr hle hS) hr'
theorem IU{c:Call}{f:Operand}{gf:FuncId}{xs ys:List AV}{ts ts':Tb}{r:AV}(ho:o.op= .call c)(hc:c.callee= .value f)(hf:((bE st.sl f).nm= .lJ (.func gf) xs/\toAll (c.args.toList.map (bE st.sl)++xs) ys)\/((bE st.sl f).nm= .mE (.func gf) xs/\toAll (xs++c.args.toList.map (bE st.sl)) ys))(hp:aE P gf ys ts r ts')(hb:ay st.tb.bx ts.bx)(hr:ay st.tb.rw ts.rw)(hn:ts.nx=st.tb.nx):dA P st o r (st.tb.merge ts ts'):=by
 intro w0 M0 F g a w hw hop K Q hK;have qj:∀y,y∈o.op.operands->aX g (a.eval y) (bE st.sl y):=fun y hy=>iZ y fun t e=>hop t (e▸hy);have h1:=bP (qj f (by rw[ho];simp[Op.operands,Call.operands,hc]));have hargs:=jz (g:=g) (a:=a) (sl:=st.sl) c.args.toList (fun y hy=>qj y (by rw[ho];simp[Op.operands,Call.operands,hc];exact Or.inr (by simpa using hy)));have key:∃us,aJ g us ys/\(execOp a.eval o).run P w= .ok (.enter gf us.toArray) w:=by
  rcases hf with⟨hf,hx⟩|⟨hf,hx⟩
  ·rw[hf]at h1;generalize hv:a.eval f=v at h1;cases h1 with
   |lJ og=>
    rename_i cv;exact⟨_,fJ _ (hargs.append og) hx,by simp[execOp,ho,resolve,hc,hv,Deferred.ofValue,invoke,gj hp.1]⟩
  ·rw[hf]at h1;generalize hv:a.eval f=v at h1;cases h1 with
   |mE og=>
    rename_i cv;exact⟨_,fJ _ (og.append hargs) hx,by simp[execOp,ho,resolve,hc,hv,Deferred.ofValue,invoke,gj hp.1]⟩
 obtain⟨us,hall,hrun⟩:=key;unfold Oper.wp;rw[hrun];refine(hp.2 g w _ _ (hw.part hb hr hn) hall).mono ?_;rintro e' w' ⟨v',g',rfl,hle,hS,hr'⟩;exact hK v' w' g' hle (hw.back hb hr hle hS) hr'
theorem P3{t:TypeId}{name:String}{gf:FuncId}{v:Value}{w:World}{n:Nat}(h:wR P t name=some gf):(method (n+1) t v name).run P w= .ok (gf,v) w:=by
 unfold wR at h;split at h
 ·rename_i i hi;split at h
  ·rename_i m e hm hu;split at h
   ·rename_i hp;split at h
    ·rename_i f hf;injection h with h;subst h;have afD:m.path.toList=[]:=by
      have:m.path=#[]:=by simpa using hp
      rw[this]
     unfold method;simp only[Sem.run_bind,run_typeInfo (w:=w) hi,Result.andThen_ok,hm,afD,follow,Sem.run_pure,hf,receiverAt,run_underlying hu,Place.get]
    ·cases h
   ·cases h
  ·cases h
 ·cases h
theorem P4{c:Call}{x:Operand}{name:String}{t:TypeId}{av:AV}{gf:FuncId}{ys:List AV}{ts ts':Tb}{r:AV}(ho:o.op= .call c)(hc:c.callee= .invoke x name)(hf:bE st.sl x= .mW t av)(hm:wR P t name=some gf)(hx:toAll (av::c.args.toList.map (bE st.sl)) ys)(hp:aE P gf ys ts r ts')(hb:ay st.tb.bx ts.bx)(hr:ay st.tb.rw ts.rw)(hn:ts.nx=st.tb.nx):dA P st o r (st.tb.merge ts ts'):=by
 intro w0 M0 F g a w hw hop K Q hK;have qj:∀y,y∈o.op.operands->aX g (a.eval y) (bE st.sl y):=fun y hy=>iZ y fun t e=>hop t (e▸hy);have h1:=qj x (by rw[ho];simp[Op.operands,Call.operands,hc]);rw[hf]at h1;generalize hv:a.eval x=v at h1;cases h1 with
 |mW hrecv=>
  rename_i rv;have hargs:=jz (g:=g) (a:=a) (sl:=st.sl) c.args.toList (fun y hy=>qj y (by rw[ho];simp[Op.operands,Call.operands,hc];exact Or.inr (by simpa using hy)));have hall:=fJ _ (aJ.cons hrecv hargs) hx;have hrun:(execOp a.eval o).run P w= .ok (.enter gf (rv::c.args.toList.map a.eval).toArray) w:=by
   have e1:#[Value.iface t rv]++Array.map a.eval c.args=(Value.iface t rv::c.args.toList.map a.eval).toArray:=by
    apply Array.ext';simp
   simp only[execOp,ho,resolve,hc,hv,Sem.run_bind,Sem.run_pure,Result.andThen_ok,invoke,e1];simp[callMethod,run_program,Made.depth,P3 hm,gj hp.1];exact fY (by simp)
  unfold Oper.wp;rw[hrun];refine(hp.2 g w _ _ (hw.part hb hr hn) hall).mono ?_;rintro e' w' ⟨v',g',rfl,hle,hS,hr'⟩;exact hK v' w' g' hle (hw.back hb hr hle hS) hr'
theorem vQ{α:Type}{a:Array α}(h:a.size=2)(d:α):a=#[a.getD 0 d,a.getD 1 d]:=by
 match a,h with
 |⟨[x,y]⟩,_=>rfl
theorem IV:∀{xs:List AV} {zs:List PC},dV xs=some zs->xs=zs.map .p
 |[],zs,h=>by simp only[dV,Option.some.injEq]at h;subst h;rfl
 |x::l,zs,h=>by
  cases x with
  |p x=>
   simp only[dV]at h;split at h
   ·rename_i r hr;injection h with h;subst h;rw[List.map_cons,<-IV hr]
   ·cases h
  |_=>simp[dV]at h
theorem xM{md:Bool}{k:AV->Tb->Prop}(h:kP P md o.op (bE st.sl) st.tb k):∃x aM,k x aM/\dA P st o x aM:=by
 have VI:(h_ P o.op (bE st.sl) fun y=>k y st.tb)->∃x aM,k x aM/\dA P st o x aM:=fun h=>by
  obtain⟨x,h1,h2⟩:=CN h;exact⟨x,_,h1,dA.Xi h2⟩
 unfold kP at h;split at h
 ·rename_i t x ho;split at h
  ·unfold GU at h;split at h
   ·rename_i zs hz;exact⟨_,_,h,adM ho hz⟩
   ·exact h.elim
  ·exact VI (by rw[ho];exact h)
 ·rename_i t ho;cases hz:bG P t with
  |none=>rw[hz]at h;exact h.elim
  |some zs=>rw[hz]at h;exact⟨_,_,h,SJ ho hz⟩
 ·rename_i t n ps ho;split at h
  ·have io:∀(l:List (Nat×Operand)) (k:Nat),bt k (l.map fun p=>(p.1,bE st.sl p.2))=bt k l:=by
    intro l;induction l with
    |nil=>intro k;rfl
    |cons p l ih=>intro k;simp[bt,ih]
   cases hal:dV ((dF (bE st.sl) ps).map fun p=>p.2.nm)with
   |none=>
    rw[hal]at h;unfold wP KI at h;simp only at h;split at h
    ·rename_i e sz bT ht;obtain⟨h1,h2,h3,h4,h⟩:=h;unfold KJ at h;split at h
     ·rename_i zs hz;exact⟨_,_,h,XJ ho ht h1 (by rw[<-io];exact h2) (by simpa[dF]using h3) h4 (by rw[<-hz];simp[dF,Function.comp_def])⟩
     ·exact h.elim
    ·exact h.elim
   |some ys0=>
   rw[hal]at h;unfold wP zc at h;simp only at h;split at h
   ·rename_i e sz bT ht;obtain⟨h1,h2,h3,h4,h⟩:=h;split at h
    ·rename_i ys hys;obtain⟨h5,h⟩:=h;unfold Pc at h;simp only[ht]at h;have h6:=List.all_eq_true.1 h5;refine⟨_,_,h,adY ho ht h1 (by rw[<-io];exact h2) (by simpa[dF]using h3) h4 (by rw[<-hys];simp[dF,Function.comp_def]) (fun y hy=>?_) (fun y hy=>?_)⟩
     ·have:=h6 y hy;simp at this;exact this.1
     ·have:=h6 y hy;simp at this;exact this.2
    ·exact h.elim
   ·exact h.elim
  ·have io:∀(l:List (Nat×Operand)) (k:Nat),bt k (l.map fun p=>(p.1,bE st.sl p.2))=bt k l:=by
    intro l;induction l with
    |nil=>intro k;rfl
    |cons p l ih=>intro k;simp[bt,ih]
   cases hal:dV ((dF (bE st.sl) ps).map fun p=>p.2.nm)with
   |some ys0=>rw[hal]at h;exact VI (by rw[ho];exact h)
   |none=>
    rw[hal]at h;simp only[Pb]at h;unfold vE at h;split at h
    ·rename_i e sz bT ht;obtain⟨h1,h2,h3,h4,ys,aM,h5,h6,h7,h⟩:=h;refine⟨_,_,h,PV ho ht h1 (by rw[<-io];exact h2) (by simpa[dF]using h3) h4 (by simpa[dF,Function.comp_def]using h5) h6 (fun y hy b xs e=>?_)⟩;have:=h7 y hy;subst e;simpa[cw]using this
    ·exact h.elim
 ·rename_i t x ho;unfold slT at h;split at h
  ·rename_i id off hx;obtain⟨rfl,h⟩:=h;unfold slO at h;split at h
   ·rename_i ob m s ag hl hA;obtain⟨rfl,h⟩:=h;unfold slC at h;split at h
    ·rename_i zs hz;obtain⟨h1,h2,h3,h4,h⟩:=h;exact⟨_,_,h,Rb ho hx hl hA (IV hz) h1 h2 h3 h4⟩
    ·exact h.elim
   ·exact h.elim
  ·exact VI (by rw[ho];exact h)
 ·rename_i t x hi mx ho;split at h
  ·unfold Bo at h;split at h
   ·rename_i k1 h' k2 m' id f n s c hh hm hx;obtain⟨h1,rfl,rfl,rfl,h⟩:=h;unfold clO at h;split at h
    ·rename_i ob hl;obtain⟨h2,h⟩:=h;exact⟨_,_,h,Wg ho hx h1 hl h2 hh hm⟩
    ·exact h.elim
   ·exact h.elim
  ·exact VI (by rw[ho];exact h)
 ·rename_i s d x ho;unfold oG at h;split at h
  ·rename_i id f n z m hx;split at h
   ·obtain⟨h1,h2,l,h3,h4⟩:=h;exact⟨_,_,h4,Od ho hx h1 h2 h3⟩
   ·unfold YB at h;split at h
    ·rename_i ob hl;obtain⟨rfl,h2,h3,h4,h5,h6⟩:=h;exact⟨_,_,h6,Oc ho hx h2 hl h3 h4 h5⟩
    ·exact h.elim
  ·split at h
   ·unfold cvM at h;split at h
    ·rename_i b hb;unfold YC at h;split at h
     ·rename_i el sz bT hel;obtain⟨h1,h2,rfl,h4,h5⟩:=h;exact⟨_,_,h5,Kg ho hb h1 h2 hel h4⟩
     ·exact h.elim
    ·exact h.elim
   ·refine VI ?_;rw[ho];exact h
 ·rename_i t x ho;unfold loadT at h;split at h
  ·rename_i id off hx;split at h
   ·rename_i ob ag s hl ha hs;split at h
    ·rename_i y hp;exact⟨_,_,h,Oe ho hx hl ha hs hp⟩
    ·exact h.elim
   ·exact h.elim
  ·refine VI ?_;rw[ho];exact h
 ·rename_i t x y ho;unfold storeT at h;split at h
  ·rename_i id off zs hx hy;split at h
   ·rename_i ob hl;obtain⟨h1,h2,h⟩:=h;exact⟨_,_,h,Il ho hx hl hy h1 h2⟩
   ·exact h.elim
  ·exact h.elim
 ·rename_i t x y ho;split at h
  ·unfold mkP at h;split at h
   ·rename_i e s bT hel;split at h
    ·rename_i kl n kc c hx hy;unfold KL at h;split at h
     ·rename_i u hz;obtain⟨rfl,h2,rfl,h4,h5,h⟩:=h;exact⟨_,_,h,ad0 ho hel hz (kl:=kl) (kc:=kc) (by rw[hx,Int.toNat_of_nonneg h2]) (by rw[hy,Int.toNat_of_nonneg h2]) h4 h5⟩
     ·exact h.elim
    ·exact h.elim
   ·exact h.elim
  ·unfold mkT at h;split at h
   ·rename_i e s bT hel;split at h
    ·rename_i kl n kc c z hx hy hz;obtain⟨h1,h2,h3,h4,h5,h⟩:=h;exact⟨_,_,h,ad1 ho hel h1 hz (kl:=kl) (kc:=kc) (by rw[hx,Int.toNat_of_nonneg h2]) (by rw[hy,Int.toNat_of_nonneg (by omega)]) (by omega) h4 h5⟩
    ·exact h.elim
   ·exact h.elim
 ·rename_i c ho;split at h
  ·rename_i hc;obtain⟨ha,ht,h⟩:=h;have ea:=vQ ha (.tmp 0);have et:=vQ ht 0;generalize c.args.getD 0 (.tmp 0)=x at*;generalize c.args.getD 1 (.tmp 0)=y at*;generalize c.argTypes.getD 0 0=t at*;generalize c.argTypes.getD 1 0=u at*;unfold ET at h;split at h
   ·rename_i id f n s m hx;unfold TA at h;split at h
    ·rename_i e s' bT hel;obtain⟨rfl,h⟩:=h;unfold GV at h;split at h
     ·rename_i ob _ hl;obtain⟨h1,h2,h⟩:=h;unfold Pf at h;split at h
      ·obtain⟨j,zs,h3,h4⟩:=CV h;rcases h3 with⟨h5,h⟩|⟨h5,h7,h8,h⟩
       ·exact⟨_,_,h,Yd ho hc ea et hx hl h1 hel h2 h5 h4⟩
       ·exact⟨_,_,h,Tm ho hc ea et hx hl hel h2 h4 h5 h7 h8⟩
      ·obtain⟨j,zs,⟨rfl,h5,h7,h8,h⟩,h4⟩:=CV h;exact⟨_,_,h,Ye ho hc ea et hx hl h1 h5 hel (by simpa using h2) h4 h7 h8⟩
     ·rename_i kd ob hu hl;obtain⟨h2,h⟩:=h;unfold GX at h;split at h
      ·rename_i xm j z hy hz;obtain⟨rfl,h8,h9,h3,h4,h6,h7,h⟩:=h;exact⟨_,_,h,OB ho hc ea et hx hl h8 h9 hel h3 (by simpa using h2) hu hz (xm:=xm) (by rw[hy,Int.toNat_of_nonneg (by omega)]) (by omega) h6 h7⟩
      ·rename_i m' xm j z hy hz;obtain⟨h3,h4,h5,h6,h7,h⟩:=h;exact⟨_,_,h,SW ho hc ea et hx hl hel h3 h2 hu hz (xm:=xm) (by rw[hy,Int.toNat_of_nonneg (by omega)]) (by omega) h5 h6 h7⟩
      ·exact h.elim
     ·exact h.elim
    ·exact h.elim
   ·rename_i hnv;split at h
    ·unfold Pe at h;split at h
     ·rename_i e s bT hel;obtain⟨h1,h⟩:=h;have hx:bE st.sl x= .full []\/bE st.sl x= .p .nil:=by
       unfold isNone at h1;split at h1
       ·rename_i hx;exact .inl hx
       ·rename_i hx;exact .inr hx
       ·exact h1.elim
      unfold zA at h;split at h
      ·rename_i kd hu;unfold Bp at h;split at h
       ·rename_i xm j z hy hz;obtain⟨h3,h4,h6,h7,h⟩:=h;exact⟨_,_,h,OD ho hc ea et hx hel h3 hu hz (xm:=xm) (by rw[hy,Int.toNat_of_nonneg (by omega)]) (by omega) h6 h7⟩
       ·exact h.elim
      ·obtain⟨j,zs,⟨h7,h8,h⟩,h4⟩:=CV h;exact⟨_,_,h,Yf ho hc ea et hx hel h4 h7 h8⟩
     ·exact h.elim
    unfold Aq at h;split at h
    ·rename_i e sz bT hel;cases hX:E_ st.tb.rw e sz (bE st.sl x)with
     |none=>rw[hX]at h;exact h.elim
     |some q=>
      obtain⟨dX,xs⟩:=q;rw[hX]at h;have hR:=BA hX;unfold Hf at h;simp only at h;split at h
      ·rename_i s hy;obtain⟨rfl,h1,h2,h3,h4,h⟩:=h;exact⟨_,_,h,Bc ho hc ea et hel h1 h2 h3 h4 hy (by cases dX<;>exact hR)⟩
      ·rename_i ys hy;obtain⟨h1,h2,h3,h4,h5,h6,h⟩:=h;exact⟨_,_,h,um ho hc ea et hel h1 h2 h3 h4 h5 h6 (.inl hy) (by cases dX<;>exact hR)⟩
      ·rename_i hy;obtain⟨h1,h2,h3,h4,h5,h6,h⟩:=h;exact⟨_,_,h,um ho hc ea et hel h1 h2 h3 h4 h5 h6 (.inr ⟨rfl,hy⟩) (by cases dX<;>exact hR)⟩
      ·exact h.elim
    ·exact h.elim
  ·rename_i hc;obtain⟨ha,ht,h⟩:=h;have ea:=vQ ha (.tmp 0);have et:=vQ ht 0;generalize c.args.getD 0 (.tmp 0)=x at*;generalize c.args.getD 1 (.tmp 0)=y at*;generalize c.argTypes.getD 0 0=t at*;generalize c.argTypes.getD 1 0=u at*;unfold cpT at h;split at h
   ·rename_i id f n s m hx;obtain⟨h0,h⟩:=h;unfold cpO at h;split at h
    ·rename_i ob hl;obtain⟨h1,h⟩:=h;have afE:x∈o.op.operands:=by rw[ho];simp[Op.operands,Call.operands,hc,ea]
     have rR:lk id (st.tb.aP id {ob with xs:=bB (f*s) ob.xs}).bx=some {ob with xs:=bB (f*s) ob.xs}:=by simp[Tb.aP,a_]
     have hfl:f*s<=(bB (f*s) ob.xs).length:=by rw[eN];omega
     unfold Zy at h;split at h
     ·rename_i id' f' n' s' m' hy;obtain⟨rfl,h⟩:=h;unfold cpG at h;split at h
      ·rename_i jh hl';exact⟨_,_,h.2,VG afE hx hl h1 (T4 (st:=⟨st.sl,_⟩) ho hc ea et hx rR h1 h0 hfl hy hl' rfl h.1)⟩
      ·exact h.elim
     ·split at h
      ·rename_i ys hy;obtain⟨h3,h4,h⟩:=h;exact⟨_,_,h,VG afE hx hl h1 (T5 (st:=⟨st.sl,_⟩) ho hc ea et hx rR h1 h0 hfl hy rfl h3 h4)⟩
      ·exact h.elim
    ·exact h.elim
   ·exact h.elim
  ·rename_i hc;obtain⟨ha,ht,h⟩:=h;have ea:=nu ha (.tmp 0);have et:=nu ht 0;generalize c.args.getD 0 (.tmp 0)=x at*;generalize c.argTypes.getD 0 0=t at*;unfold YH at h;split at h
   ·rename_i e s bT hel;split at h
    ·rename_i id f n s' m z hx hz;obtain⟨rfl,h0,h⟩:=h;split at h
     ·rename_i ob hl;obtain⟨h1,h2,h⟩:=h;exact⟨_,_,h,PT ho hc ea et hx hl h1 hel h0 hz h2⟩
     ·exact h.elim
    ·exact h.elim
   ·exact h.elim
  ·rename_i f hc;unfold wQ at h;split at h
   ·rename_i gf caps hf;rcases h with⟨xs,hxs,r,h1,h2⟩|⟨ys,ts,r,ts',h1,h2,h3,h4,h5,h6⟩|⟨ys,r,n,h1,h2,h3,h4⟩|⟨rfl,⟨h1,h2,id,of,n,s,m,y,ob,h3,h4,h5,h6,D9,h7⟩|⟨xs,r,h1,h2,h3⟩⟩
    ·exact⟨_,_,h2,dA.Xi (Mu ho hc hf (by rw[<-hxs,List.map_map];rfl) h1)⟩
    ·exact⟨_,_,h6,IQ ho hc hf h1 h2 h3 h4 h5⟩
    ·exact⟨_,_,h4,SH ho hc hf h1 h2 h3⟩
    ·exact⟨_,_,h2,adJ ho hc hf h1 h3 h4 h5 h6 D9 h7⟩
    ·exact⟨_,_,h3,adK ho hc hf h2 (by rw[<-h1,List.map_map];rfl)⟩
   ·rename_i gf xs hf;obtain⟨ys,ts,r,ts',h1,h2,h3,h4,h5,h6⟩:=h;exact⟨_,_,h6,IU ho hc (.inl ⟨hf,h1⟩) h2 h3 h4 h5⟩
   ·rename_i gf xs hf;obtain⟨ys,ts,r,ts',h1,h2,h3,h4,h5,h6⟩:=h;exact⟨_,_,h6,IU ho hc (.inr ⟨hf,h1⟩) h2 h3 h4 h5⟩
   ·exact h.elim
  ·rename_i x name hc;unfold KO at h;split at h
   ·rename_i t av hf;unfold KP at h;split at h
    ·rename_i gf hm;obtain⟨ys,ts,r,ts',h1,h2,h3,h4,h5,h6⟩:=h;exact⟨_,_,h6,P4 ho hc hf hm h1 (by simpa using h2) h3 h4 h5⟩
    ·exact h.elim
   ·exact h.elim
  ·exact VI (by rw[ho];exact h)
 ·exact VI h
end
end Go.Av
namespace Go.Av
open Go.RowKit
inductive Cls where
 |q
 |r (l:Nat)
 |s (l:Nat) (keep:List Nat)
 |f (ls:List Nat)
 |w (keep:List Nat)
inductive OT where
 |lf
 |br (i:Nat) (sub KH:OT)
 |one (i:Nat) (sub:OT)
structure Cx where
 md:List Nat
 cls:List (Nat×List (Nat×Cls))
 lab:List (Nat×Nat)
 fC:Nat
 ot:List (Nat×OT)
def Cx.lb(cx:Cx)(l:Nat):Nat:=(lk l cx.lab).getD 0
def Cx.uB(cx:Cx)(d:Option Tmp):Bool:=match d with|some d=>cx.md.contains d|none=>false
def eV(m:List (Nat×Cls))(i:Nat):Cls:=(lk i m).getD .q
structure Fr where
 w0:World
 M0:Mem
 F:Nat->Prop
 g0:G
 n:Nat
 ds:List Deferred
def iq(fr:Fr)(st:AS)(a:Act)(w:World):Prop:=∃g,fr.g0.le g/\aQ fr.w0 fr.M0 fr.F st.tb g w/\JE st.sl g a/\a.tmps.size=fr.n/\a.defers=fr.ds
def aky:AV->Option Bool
 | .p (.sc (.bool b))=>some b
 |_=>none
def sK(want:Bool):AV->Option Bool
 | .p (.sc (.bool b))=>some (b==want)
 | .agg true []=>some false
 |_=>none
def PE:AV:= .agg true []
theorem Ud{g:G}:aX g undef PE:= .qi .nil
theorem Fb{want:Bool}{x:AV}{b:Bool}(h:sK want x=some b):(∃c,x= .p (.sc (.bool c))/\b=(c==want))\/x=PE/\b=false:=by
 unfold sK at h;split at h
 ·injection h with h;exact .inl ⟨_,rfl,h.symm⟩
 ·injection h with h;exact .inr ⟨rfl,h.symm⟩
 ·cases h
def iK(ops:Array Oper)(sl:Nat->AV)(o:Oper):Option Bool:=match o.guard with
 |none=>some true
 |some (j,want)=>match(ops[j]?).bind (·.dst)with
  |some d=>sK want (sl d)
  |none=>none
def nM(n:Nat)(o:Oper):Bool:=match o.dst with|some d=>decide (d<n)|none=>true
section
variable{P:Program}{fr:Fr}{ops:Array Oper}
theorem JE.put{sl:Nat->AV}{g g':G}{a:Act}{o:Oper}{v:Value}{x:AV}{n:Nat}(h:JE sl g a)(hg:g.le g')(hn:a.tmps.size=n)(hd:nM n o=true)(hx:aX g' v x):JE (eL sl o.dst x) g' (a.put o.dst v):=by
 intro t;unfold nM at hd;cases ho:o.dst with
 |none=>simpa[eL,Act.put]using(h t).mono hg
 |some d=>
  rw[ho]at hd;simp only[decide_eq_true_eq]at hd;simp only[eL,Act.put,u9];by_cases e:t=d
  ·subst e;simp[hn,hd];exact hx
  ·rw[if_neg e];have:=(h t).mono hg;simp only[Array.getD_eq_getD_getElem?]at this⊢;rw[Array.getElem?_setIfInBounds_ne (Ne.symm e)];exact this
theorem zh(a:Act)(d:Option Tmp)(v:Value):(a.put d v).tmps.size=a.tmps.size:=by cases d<;>simp[Act.put]
theorem CK(a:Act)(d:Option Tmp)(v:Value):(a.put d v).defers=a.defers:=by cases d<;>rfl
theorem mP{sl:Nat->AV}{g:G}{a:Act}{o:Oper}{b:Bool}(h:JE sl g a)(hw:iK ops sl o=some b):Region.wanted o (yielded ops a.tmps)=b:=by
 unfold iK at hw;unfold Region.wanted;cases hg:o.guard with
 |none=>rw[hg]at hw;simpa using hw
 |some jw=>
  obtain⟨j,want⟩:=jw;rw[hg]at hw;simp only at hw⊢;cases hd:(ops[j]?).bind (·.dst)with
  |none=>rw[hd]at hw;cases hw
  |some d=>
   rw[hd]at hw;simp only at hw;have E9:=Fb hw;have Sb:∀v,a.tmps.getD d undef=v->v≠undef->a.tmps[d]?=some v:=fun v this hne=>by
    rw[Array.getD_eq_getD_getElem?]at this;cases hh:a.tmps[d]? with
    |none=>rw[hh]at this;exact absurd this.symm hne
    |some v=>rw[hh]at this;simpa using this
   have:=h d;rcases E9 with⟨c,hx,rfl⟩|⟨hx,rfl⟩
   ·rw[hx]at this;have:=bF this;have hy:yielded ops a.tmps j=some c:=by
     unfold yielded;rw[hd];simp only[Option.bind_some];rw[Sb _ this (by simp[undef])]
    rw[hy];cases c<;>cases want<;>rfl
   ·rw[hx]at this;have hv:a.tmps.getD d undef= .tuple #[]:=by
     generalize a.tmps.getD d undef=v at this;cases this with
     |qi hs=>cases hs;rfl
    have hy:yielded ops a.tmps j=none:=by
     unfold yielded;rw[hd];simp only[Option.bind_some];rw[Array.getD_eq_getD_getElem?]at hv;cases hh:a.tmps[d]? with
     |none=>rfl
     |some v=>rw[hh]at hv;simp at hv;subst hv;rfl
    rw[hy];rfl
theorem zG{st:AS}{a:Act}{w:World}{o:Oper}(h:iq fr st a w)(hd:nM fr.n o=true):iq fr (st.put o.dst PE) (a.put o.dst undef) w:=by
 obtain⟨g,h0,h1,h2,h3,h4⟩:=h;exact⟨g,h0,h1,h2.put (G.le_refl g) h3 hd Ud,by rw[zh];exact h3,by rw[CK];exact h4⟩
theorem zF{st:AS}{a:Act}{w:World}{o:Oper}{x:AV}{aM:Tb}{K:Act->World->Prop}{Q:Exit->Act->World->Prop}(h:iq fr st a w)(hd:nM fr.n o=true)(hy:dA P st o x aM)(hK:∀a' w',iq fr ⟨eL st.sl o.dst x,aM⟩ a' w'->K a' w'):o.wp P a w K Q:=by
 obtain⟨g,h0,h1,h2,h3,h4⟩:=h;exact hy fr.w0 fr.M0 fr.F g a w h1 (fun t _=>h2 t) K Q fun v w' g' hM hw' hv=>hK _ _ ⟨g',h0.trans hM,hw',h2.put hM h3 hd hv,by rw[zh];exact h3,by rw[CK];exact h4⟩
def z7(P:Program)(cx:Cx)(ops:Array Oper)(K:AS->Prop):List Oper->AS->Prop
 |[],st=>K st
 |o::rest,st=>match iK ops st.sl o with
  |some true=>kP P (cx.uB o.dst) o.op (bE st.sl) st.tb fun x aM=>z7 P cx ops K rest ⟨eL st.sl o.dst x,aM⟩
  |some false=>z7 P cx ops K rest (st.put o.dst PE)
  |none=>False
theorem qx{cx:Cx}{K:AS->Prop}{Q:Exit->Act->World->Prop}(hQ:∀st a w,K st->iq fr st a w->Q .normal a w):∀(l:List Oper) (st:AS),l.all (nM fr.n)=true->z7 P cx ops K l st->∀a w,iq fr st a w->wpList P ops Q l a w
 |[],st,_,h,a,w,hs=>hQ st a w h hs
 |o::l,st,hd,h,a,w,hs=>by
  simp only[List.all_cons,Bool.and_eq_true]at hd;unfold z7 at h;have Zf:=hs;obtain⟨g,_,_,h2,_,_⟩:=Zf;split at h
  ·rename_i hw;have hw:=mP h2 hw;unfold wpList;rw[if_pos hw];obtain⟨x,aM,hx,hy⟩:=xM h;exact .inl (zF hs hd.1 hy fun a' w' hs'=>qx hQ l _ hd.2 hx a' w' hs')
  ·rename_i hw;have hw:=mP h2 hw;unfold wpList;rw[if_neg (by rw[hw];exact Bool.false_ne_true)];exact qx hQ l _ hd.2 h _ _ (zG hs hd.1)
  ·exact h.elim
def keeps(cx:Cx)(keep:List Nat)(tb aM:Tb):Prop:=∀l∈keep,lk (cx.lb l) aM.bx=lk (cx.lb l) tb.bx
def afH(cx:Cx)(ls:List Nat)(t u:Tb):Prop:=∀i,i∉ls.map cx.lb->lk i t.bx=lk i u.bx
structure Tb.eqv(t u:Tb):Prop where
 rw:t.rw=u.rw
 nx:t.nx=u.nx
 bx:∀i,lk i t.bx=lk i u.bx
theorem Tb.dL(t:Tb):t.eqv t:=⟨rfl,rfl,fun _=>rfl⟩
theorem Tb.eqv.symm{t u:Tb}(h:t.eqv u):u.eqv t:=⟨h.rw.symm,h.nx.symm,fun i=>(h.bx i).symm⟩
theorem Tb.eqv.trans{t u v:Tb}(h:t.eqv u)(k:u.eqv v):t.eqv v:=⟨h.rw.trans k.rw,h.nx.trans k.nx,fun i=>(h.bx i).trans (k.bx i)⟩
theorem aQ.eqv{w0:World}{M0:Mem}{F:Nat->Prop}{t u:Tb}{g:G}{w:World}(h:aQ w0 M0 F t g w)(e:t.eqv u):aQ w0 M0 F u g w:=h.sub (fun i o h=>by rw[e.bx i];exact h) (fun i r h=>by rw[e.rw];exact h) (Nat.le_of_eq e.nx)
theorem dA.eqv{sl:Nat->AV}{t u t' u':Tb}{o:Oper}{x:AV}(h:dA P ⟨sl,t⟩ o x t')(e:t.eqv u)(e':t'.eqv u'):dA P ⟨sl,u⟩ o x u':=fun w0 M0 F g a w hw ho K Q hK=>
 h w0 M0 F g a w (hw.eqv e.symm) ho K Q fun v w' g' h1 h2 h3=>hK v w' g' h1 (h2.eqv e') h3
theorem lz(t:Tb)(i j:Nat)(ob:Ob):lk i (t.aP j ob).bx=if i=j then some ob else lk i t.bx:=by
 simp only[Tb.aP,a_];split
 ·rfl
 ·rename_i h;rw[cu,if_neg h]
theorem Lf{t u:Tb}(h:t.eqv u)(i:Nat)(ob:Ob):(t.aP i ob).eqv (u.aP i ob):=⟨h.rw,h.nx,fun j=>by rw[lz,lz,h.bx]⟩
def Yk(P:Program)(cx:Cx)(sl:Nat->AV)(tb:Tb)(o:Oper)(x:AV)(aM:Tb):Cls->Prop
 | .q=>tb.eqv aM/\cP P sl o x
 | .r l=>tb.eqv aM/\∃ob,lk (cx.lb l) tb.bx=some ob/\∀t:Tb,lk (cx.lb l) t.bx=some ob->dA P ⟨sl,t⟩ o x t
 | .s l keep=>∃ob jh,lk (cx.lb l) tb.bx=some ob/\(tb.aP (cx.lb l) jh).eqv aM/\keeps cx keep tb aM/\∀t:Tb,lk (cx.lb l) t.bx=some ob->dA P ⟨sl,t⟩ o x (t.aP (cx.lb l) jh)
 | .f ls=>keeps cx ls tb aM/\∀t t':Tb,t.rw=tb.rw->t.nx=tb.nx->afH cx ls t tb->t'.rw=aM.rw->t'.nx=aM.nx->afH cx ls t' aM->keeps cx ls t t'->dA P ⟨sl,t⟩ o x t'
 | .w keep=>keeps cx keep tb aM/\dA P ⟨sl,tb⟩ o x aM
def conf:Cls->Cls->Bool
 | .q,_|_,.q=>false
 | .r _,.r _=>false
 | .r l,.s _ k| .r l,.w k| .s _ k,.r l| .w k,.r l=>!k.contains l
 | .r l,.f k| .f k,.r l| .s l _,.f k| .f k,.s l _=>!k.contains l
 |_,_=>true
theorem Yk.src{cx:Cx}{sl:Nat->AV}{tb u aM:Tb}{o:Oper}{x:AV}{c:Cls}(h:Yk P cx sl tb o x aM c)(e:tb.eqv u):Yk P cx sl u o x aM c:=by
 cases c with
 |q=>exact⟨e.symm.trans h.1,h.2⟩
 |r l=>obtain⟨h0,ob,h1,h2⟩:=h;exact⟨e.symm.trans h0,ob,by rw[<-e.bx];exact h1,h2⟩
 |s l k=>
  obtain⟨ob,jh,h1,h2,h3,h4⟩:=h;exact⟨ob,jh,by rw[<-e.bx];exact h1,(Lf e.symm _ _).trans h2,fun l hl=>by rw[<-e.bx];exact h3 l hl,h4⟩
 |f ls=>
  refine⟨fun l hl=>by rw[<-e.bx];exact h.1 l hl,fun t t' h1 h2 h3 h4 h5 h6 h7=>h.2 t t' (h1.trans e.rw.symm) (h2.trans e.nx.symm) (fun i hi=>(h3 i hi).trans (e.bx i).symm) h4 h5 h6 h7⟩
 |w k=>exact⟨fun l hl=>by rw[<-e.bx];exact h.1 l hl,h.2.eqv e (Tb.dL _)⟩
theorem Yk.tgt{cx:Cx}{sl:Nat->AV}{tb aM u':Tb}{o:Oper}{x:AV}{c:Cls}(h:Yk P cx sl tb o x aM c)(e:aM.eqv u'):Yk P cx sl tb o x u' c:=by
 cases c with
 |q=>exact⟨h.1.trans e,h.2⟩
 |r l=>obtain⟨h0,ob,h1,h2⟩:=h;exact⟨h0.trans e,ob,h1,h2⟩
 |s l k=>
  obtain⟨ob,jh,h1,h2,h3,h4⟩:=h;exact⟨ob,jh,h1,h2.trans e,fun l hl=>by rw[<-e.bx];exact h3 l hl,h4⟩
 |f ls=>
  refine⟨fun l hl=>by rw[<-e.bx];exact h.1 l hl,fun t t' h1 h2 h3 h4 h5 h6 h7=>h.2 t t' h1 h2 h3 (h4.trans e.rw.symm) (h5.trans e.nx.symm) (fun i hi=>(h6 i hi).trans (e.bx i).symm) h7⟩
 |w k=>exact⟨fun l hl=>by rw[<-e.bx];exact h.1 l hl,h.2.eqv (Tb.dL _) e⟩
theorem Yk.akz{cx:Cx}{sl:Nat->AV}{tb aM:Tb}{o:Oper}{x:AV}{c:Cls}(h:Yk P cx sl tb o x aM c):dA P ⟨sl,tb⟩ o x aM:=by
 cases c with
 |q=>obtain⟨e,h⟩:=h;exact(dA.Xi (st:=⟨sl,tb⟩) h).eqv (Tb.dL _) e
 |r l=>obtain⟨e,ob,h1,h2⟩:=h;exact(h2 _ h1).eqv (Tb.dL _) e
 |s l k=>obtain⟨ob,jh,h1,h2,h3,h4⟩:=h;exact(h4 _ h1).eqv (Tb.dL _) h2
 |f ls=>exact h.2 tb aM rfl rfl (fun _ _=>rfl) rfl rfl (fun _ _=>rfl) h.1
 |w k=>exact h.2
theorem Yk.far{cx:Cx}{sl sl':Nat->AV}{tb t1 t2:Tb}{o p:Oper}{x y:AV}{l:Nat}{keep ls:List Nat}(hl:l∈ls)(h:Yk P cx sl tb o x t1 (.s l keep))(k:Yk P cx sl' t1 p y t2 (.f ls)):∃t3,Yk P cx sl' tb p y t3 (.f ls)/\Yk P cx sl t3 o x t2 (.s l keep):=by
 obtain⟨ob,jh,h1,h2,h3,h4⟩:=h;have hk:keeps cx ls t1 t2:=k.1;have t1i:∀i,lk i t1.bx=if i=cx.lb l then some jh else lk i tb.bx:=fun i=>by rw[<-h2.bx i,lz]
 refine⟨⟨(cx.lb l,ob)::del (cx.lb l) t2.bx,t2.rw,t2.nx⟩,⟨?_,?_⟩,ob,jh,by simp[a_],?_,?_,h4⟩
 ·intro l' hl';show lk (cx.lb l') ((cx.lb l,ob)::del (cx.lb l) t2.bx)=_;rw[a_];split
  ·rename_i e;rw[e];exact h1.symm
  ·rename_i e;rw[cu,if_neg e,hk l' hl',t1i,if_neg e]
 ·intro t t' g1 g2 g3 g4 g5 g6 g7;refine k.2 t t' (g1.trans h2.rw) (g2.trans h2.nx) (fun i hi=>?_) g4 g5 (fun i hi=>?_) g7
  ·rw[g3 i hi,t1i,if_neg];intro e;exact hi (List.mem_map.2 ⟨l,hl,e.symm⟩)
  ·rw[g6 i hi];show lk i ((cx.lb l,ob)::del (cx.lb l) t2.bx)=_;have hne:i≠cx.lb l:=fun e=>hi (List.mem_map.2 ⟨l,hl,e.symm⟩);rw[a_,if_neg hne,cu,if_neg hne]
 ·refine⟨rfl,rfl,fun i=>?_⟩;rw[lz];show(if i=cx.lb l then some jh else lk i ((cx.lb l,ob)::del (cx.lb l) t2.bx))=_;split
  ·rename_i e;rw[e,hk l hl,t1i,if_pos rfl]
  ·rename_i e;rw[a_,if_neg e,cu,if_neg e]
 ·intro l' hl';show _=lk (cx.lb l') ((cx.lb l,ob)::del (cx.lb l) t2.bx);rw[a_];split
  ·rename_i e;have:=h3 l' hl';rw[t1i,if_pos e,e,h1]at this;rw[e,hk l hl,t1i,if_pos rfl];exact this
  ·rename_i e;rw[cu,if_neg e]
theorem Yk.akA{cx:Cx}{sl sl':Nat->AV}{tb t1 t2:Tb}{o p:Oper}{x y:AV}{l:Nat}{keep ls:List Nat}(hl:l∈ls)(h:Yk P cx sl tb o x t1 (.f ls))(k:Yk P cx sl' t1 p y t2 (.s l keep)):∃t3,Yk P cx sl' tb p y t3 (.s l keep)/\Yk P cx sl t3 o x t2 (.f ls):=by
 obtain⟨ob,jh,h1,h2,h3,h4⟩:=k;have hk:keeps cx ls tb t1:=h.1;have t2i:∀i,lk i t2.bx=if i=cx.lb l then some jh else lk i t1.bx:=fun i=>by rw[<-h2.bx i,lz]
 have hold:lk (cx.lb l) tb.bx=some ob:=by rw[<-hk l hl];exact h1
 refine⟨tb.aP (cx.lb l) jh,⟨ob,jh,hold,Tb.dL _,fun l' hl'=>?_,h4⟩,fun l' hl'=>?_,?_⟩
 ·rw[lz];split
  ·rename_i e;have:=h3 l' hl';rw[t2i,if_pos e,e,h1]at this;rw[e,hold];exact this
  ·rfl
 ·rw[t2i,lz];split
  ·rfl
  ·exact hk l' hl'
 ·intro t t' g1 g2 g3 g4 g5 g6 g7;refine h.2 t t' g1 g2 (fun i hi=>?_) (g4.trans h2.rw.symm) (g5.trans h2.nx.symm) (fun i hi=>?_) g7
  ·have hne:i≠cx.lb l:=fun e=>hi (List.mem_map.2 ⟨l,hl,e.symm⟩);rw[g3 i hi,lz,if_neg hne]
  ·have hne:i≠cx.lb l:=fun e=>hi (List.mem_map.2 ⟨l,hl,e.symm⟩);rw[g6 i hi,t2i,if_neg hne]
theorem Yk.comm{cx:Cx}{sl sl':Nat->AV}{tb t1 t2:Tb}{o p:Oper}{x y:AV}{c d:Cls}(hc:conf c d=false)(h:Yk P cx sl tb o x t1 c)(k:Yk P cx sl' t1 p y t2 d):∃t3,Yk P cx sl' tb p y t3 d/\Yk P cx sl t3 o x t2 c:=by
 by_cases hq:d= .q
 ·subst hq;obtain⟨e,k⟩:=k;exact⟨tb,⟨Tb.dL _,k⟩,h.tgt e⟩
 cases c with
 |q=>
  obtain⟨e,h⟩:=h;exact⟨t2,k.src e.symm,Tb.dL _,h⟩
 |r l=>
  obtain⟨e,ob,h1,h2⟩:=h;refine⟨t2,k.src e.symm,Tb.dL _,ob,?_,h2⟩;have gQ:lk (cx.lb l) t1.bx=some ob:=by rw[<-e.bx];exact h1
  cases d with
  |q=>exact absurd rfl hq
  |r m=>rw[<-k.1.bx];exact gQ
  |s m kp=>obtain⟨_,_,_,_,kk,_⟩:=k;rw[kk l (by simpa[conf]using hc)];exact gQ
  |f ls=>rw[k.1 l (by simpa[conf]using hc)];exact gQ
  |w kp=>rw[k.1 l (by simpa[conf]using hc)];exact gQ
 |s l kp=>
  cases d with
  |q=>exact absurd rfl hq
  |r m=>
   obtain⟨ek,ob2,k1,k2⟩:=k;refine⟨tb,⟨Tb.dL _,ob2,?_,k2⟩,h.tgt ek⟩;obtain⟨_,_,_,_,kk,_⟩:=h;rw[<-kk m (by simpa[conf]using hc)];exact k1
  |s _ _=>simp[conf]at hc
  |f ls=>exact Yk.far (by simpa[conf]using hc) h k
  |w _=>simp[conf]at hc
 |f ls=>
  cases d with
  |q=>exact absurd rfl hq
  |r m=>
   obtain⟨ek,ob2,k1,k2⟩:=k;refine⟨tb,⟨Tb.dL _,ob2,?_,k2⟩,h.tgt ek⟩;rw[<-h.1 m (by simpa[conf]using hc)];exact k1
  |s l kp=>exact Yk.akA (by simpa[conf]using hc) h k
  |f _=>simp[conf]at hc
  |w _=>simp[conf]at hc
 |w kp=>
  cases d with
  |q=>exact absurd rfl hq
  |r m=>
   obtain⟨ek,ob2,k1,k2⟩:=k;refine⟨tb,⟨Tb.dL _,ob2,?_,k2⟩,h.tgt ek⟩;rw[<-h.1 m (by simpa[conf]using hc)];exact k1
  |s _ _=>simp[conf]at hc
  |f _=>simp[conf]at hc
  |w _=>simp[conf]at hc
theorem dA.congr{sl sl':Nat->AV}{tb aM:Tb}{o:Oper}{x:AV}(h:dA P ⟨sl,tb⟩ o x aM)(hs:∀t,Operand.tmp t∈o.op.operands->sl' t=sl t):dA P ⟨sl',tb⟩ o x aM:=fun w0 M0 F g a w hw ho K Q hK=>h w0 M0 F g a w hw (fun t ht=>by have:=ho t ht;simp only at this⊢;rw[<-hs t ht];exact this) K Q hK
theorem cP.congr{sl sl':Nat->AV}{o:Oper}{x:AV}(h:cP P sl o x)(hs:∀t,Operand.tmp t∈o.op.operands->sl' t=sl t):cP P sl' o x:=fun w0 M0 F tb g a w hw ho K Q hK=>h w0 M0 F tb g a w hw (fun t ht=>by rw[<-hs t ht];exact ho t ht) K Q hK
theorem Yk.congr{cx:Cx}{sl sl':Nat->AV}{tb aM:Tb}{o:Oper}{x:AV}{c:Cls}(h:Yk P cx sl tb o x aM c)(hs:∀t,Operand.tmp t∈o.op.operands->sl' t=sl t):Yk P cx sl' tb o x aM c:=by
 cases c with
 |q=>exact⟨h.1,h.2.congr hs⟩
 |r l=>obtain⟨e,ob,h1,h2⟩:=h;exact⟨e,ob,h1,fun t e=>(h2 t e).congr hs⟩
 |s l k=>obtain⟨ob,jh,h1,h2,h3,h4⟩:=h;exact⟨ob,jh,h1,h2,h3,fun t e=>(h4 t e).congr hs⟩
 |f ls=>exact⟨h.1,fun t t' g1 g2 g3 g4 g5 g6 g7=>(h.2 t t' g1 g2 g3 g4 g5 g6 g7).congr hs⟩
 |w k=>exact⟨h.1,h.2.congr hs⟩
theorem IY(sl:Nat->AV)(d:Option Tmp)(x:AV){t:Tmp}(h:d≠some t):eL sl d x t=sl t:=by
 cases d with
 |none=>rfl
 |some e=>simp only[eL,u9];rw[if_neg (fun he=>h (by rw[he]))]
theorem Lh(sl:Nat->AV){x y:Option Tmp}(v u:AV)(h:∀d,x=some d->y≠some d):eL (eL sl x v) y u=eL (eL sl y u) x v:=by
 cases x with
 |none=>rfl
 |some d=>
  cases y with
  |none=>rfl
  |some e=>simp only[eL];rw[M1 _ _ _ fun he=>h d rfl (by rw[he])]
theorem Fc{o o':Oper}(hap:∀d,o'.dst=some d->d∉o.looksAt ops)(sl:Nat->AV)(y:AV):∀t,Operand.tmp t∈o.op.operands->eL sl o'.dst y t=sl t:=fun t ht=>
 IY _ _ _ fun he=>hap t he (List.mem_append_left _ (List.mem_filterMap.2 ⟨.tmp t,by simpa using ht,rfl⟩))
theorem wX{sl:Nat->AV}{o:Oper}{d:Option Tmp}{y:AV}(hap:∀e,d=some e->e∉o.looksAt ops):iK ops (eL sl d y) o=iK ops sl o:=by
 unfold iK;cases hg:o.guard with
 |none=>rfl
 |some jw=>
  obtain⟨j,want⟩:=jw;simp only;cases ht:(ops[j]?).bind (·.dst)with
  |none=>rfl
  |some t=>
   simp only;rw[IY _ _ _ fun he=>hap t he (by simp[Oper.looksAt,hg,ht])]
def nk(P:Program)(cx:Cx)(ops:Array Oper)(c:Cls)(o:Oper)(x:AV)(sl:Nat->AV)(tb aM:Tb):Prop:=(iK ops sl o=some true/\Yk P cx sl tb o x aM c)\/(iK ops sl o=some false/\x=PE/\aM=tb)
theorem nk.congr{cx:Cx}{c:Cls}{o o':Oper}{x y:AV}{sl:Nat->AV}{tb aM:Tb}(h:nk P cx ops c o x sl tb aM)(hap:∀d,o'.dst=some d->d∉o.looksAt ops):nk P cx ops c o x (eL sl o'.dst y) tb aM:=by
 unfold nk at*;rw[wX hap];exact h.imp (fun⟨a,b⟩=>⟨a,b.congr (Fc hap sl y)⟩) id
theorem nk.Ue{cx:Cx}{c:Cls}{o o':Oper}{x y:AV}{sl:Nat->AV}{tb aM:Tb}(h:nk P cx ops c o x (eL sl o'.dst y) tb aM)(hap:∀d,o'.dst=some d->d∉o.looksAt ops):nk P cx ops c o x sl tb aM:=by
 unfold nk at*;rw[wX hap]at h;exact h.imp (fun⟨a,b⟩=>⟨a,b.congr fun t ht=>(Fc hap sl y t ht).symm⟩) id
theorem nk.comm{cx:Cx}{c d:Cls}{o p:Oper}{x y:AV}{sl:Nat->AV}{tb t1 t2:Tb}(hc:conf c d=false)(hap:o.apart ops p=true)(h:nk P cx ops c o x sl tb t1)(k:nk P cx ops d p y (eL sl o.dst x) t1 t2):∃t3,nk P cx ops d p y sl tb t3/\nk P cx ops c o x (eL sl p.dst y) t3 t2:=by
 obtain⟨h1,h2,h3⟩:=Oper.apart_spec hap;have k':=k.Ue h1;rcases h with⟨hw,hy⟩|⟨hw,rfl,rfl⟩
 ·rcases k' with⟨kw,ky⟩|⟨kw,rfl,rfl⟩
  ·obtain⟨t3,e1,e2⟩:=hy.comm hc ky;exact⟨t3,.inl ⟨kw,e1⟩,nk.congr (.inl ⟨hw,e2⟩) h3⟩
  ·exact⟨tb,.inr ⟨kw,rfl,rfl⟩,nk.congr (.inl ⟨hw,hy⟩) h3⟩
 ·exact⟨t2,k',nk.congr (.inr ⟨hw,rfl,rfl⟩) h3⟩
def PG(P:Program)(cx:Cx)(m:List (Nat×Cls))(ops:Array Oper)(i:Nat)(K:AS->Prop)(st:AS):Prop:=match ops[i]? with
 |none=>K st
 |some o=>∃x aM,nk P cx ops (eV m i) o x st.sl st.tb aM/\K ⟨eL st.sl o.dst x,aM⟩
def nh(P:Program)(cx:Cx)(m:List (Nat×Cls))(ops:Array Oper)(K:AS->Prop):Nat->Array Bool->AS->Prop
 |0,listed,st=>Region.ready .any ops listed=[]/\K st
 |fuel+1,listed,st=>
  (Region.ready .any ops listed=[]->K st)/\
  ∀i∈Region.ready .any ops listed,PG P cx m ops i (nh P cx m ops K fuel (listed.setIfInBounds i true)) st
theorem Fe{cx:Cx}{m:List (Nat×Cls)}{i:Nat}{st:AS}{a:Act}{w:World}{K:AS->Prop}{K':Act->World->Prop}{Q:Exit->Act->World->Prop}(hd:ops.all (nM fr.n)=true)(hs:iq fr st a w)(hK:∀st a w,K st->iq fr st a w->K' a w)(h:PG P cx m ops i K st):wpOp P ops Q i K' a w:=by
 unfold PG at h;unfold wpOp;cases ho:ops[i]? with
 |none=>rw[ho]at h;exact hK _ _ _ h hs
 |some o=>
  rw[ho]at h;simp only at h⊢;have hdo:nM fr.n o=true:=by
   have:=Array.all_eq_true.1 hd;obtain⟨hi,e⟩:=Array.getElem?_eq_some_iff.1 ho;rw[<-e];exact this i hi
  have Zf:=hs;obtain⟨g,_,_,h2,_,_⟩:=Zf;obtain⟨x,aM,⟨hw,hy⟩|⟨hw,rfl,rfl⟩,hk⟩:=h
  ·rw[if_pos (mP h2 hw)];exact .inl (zF (st:=st) hs hdo hy.akz fun a' w' hs'=>hK _ _ _ hk hs')
  ·rw[if_neg (by rw[mP h2 hw];exact Bool.false_ne_true)];exact hK _ _ _ hk (zG hs hdo)
theorem sM{cx:Cx}{m:List (Nat×Cls)}{K:AS->Prop}{Q:Exit->Act->World->Prop}(hd:ops.all (nM fr.n)=true)(hQ:∀st a w,K st->iq fr st a w->Q .normal a w):∀(fuel:Nat) (listed:Array Bool) (st:AS),nh P cx m ops K fuel listed st->∀a w,iq fr st a w->wpAny P .any ops Q fuel listed a w
 |0,_,_,h,a,w,hs=>⟨h.1,hQ _ _ _ h.2 hs⟩
 |fuel+1,_,_,h,a,w,hs=>⟨fun h0=>hQ _ _ _ (h.1 h0) hs,fun i hi=>Fe hd hs (fun st a w h' hs'=>sM hd hQ fuel _ st h' a w hs') (h.2 i hi)⟩
def dep(ops:Array Oper)(i:Nat):Nat->Nat->Bool
 |0,_=>false
 |f+1,j=>match ops[j]? with
  |some o=>o.after.any fun e=>Region.binds .any e&&(e.on==i||dep ops i f e.on)
  |none=>false
def Down(ops:Array Oper)(listed:Array Bool):Prop:=∀j oj,ops[j]?=some oj->listed.getD j false=true->∀e∈oj.after,Region.binds .any e=true->listed.getD e.on false=true
theorem zS{listed:Array Bool}(hD:Down ops listed){i:Nat}:∀(f j:Nat),(∀oj,ops[j]?=some oj->∀e∈oj.after,Region.binds .any e=true->listed.getD e.on false=true)->dep ops i f j=true->listed.getD i false=true
 |0,_,_,h=>by simp[dep]at h
 |f+1,j,hj,h=>by
  unfold dep at h;split at h
  ·rename_i o ho;obtain⟨e,he,h⟩:=Array.any_eq_true'.1 h;simp only[Bool.and_eq_true,Bool.or_eq_true,beq_iff_eq]at h;obtain⟨hb,h⟩:=h;have h1:=hj o ho e he hb;rcases h with h|h
   ·rw[<-h];exact h1
   ·exact zS hD f e.on (fun ok hk=>hD e.on ok hk h1) h
  ·cases h
theorem Down.set{listed:Array Bool}(hD:Down ops listed){i:Nat}(hi:i∈Region.ready .any ops listed):Down ops (listed.setIfInBounds i true):=by
 have up:∀k,listed.getD k false=true->(listed.setIfInBounds i true).getD k false=true:=fun k hk=>by
  by_cases hik:i=k
  ·subst hik;rcases Nat.lt_or_ge i listed.size with h'|h'
   ·simp[h']
   ·simp[Array.getElem?_eq_none h']at hk
  ·rw[getD_set_ne false hik];exact hk
 intro j oj hj hl e he hb;obtain⟨_,oi,hoi,hall⟩:=mem_ready.1 hi;by_cases hij:i=j
 ·subst hij;rw[hj]at hoi;injection hoi with hoi;subst hoi;exact up _ (hall e he hb)
 ·rw[getD_set_ne false hij]at hl;exact up _ (hD j oj hj hl e he hb)
theorem uD{cx:Cx}{m:List (Nat×Cls)}{K:AS->Prop}{i:Nat}{oi:Oper}{x:AV}(hi:ops[i]?=some oi)(N:Nat):∀(fuel:Nat) (listed:Array Bool) (st:AS) (aM:Tb),Down ops listed->(∀j oj,ops[j]?=some oj->j≠i->listed.getD j true=false->(∀e∈oj.after,Region.binds .any e=true->e.on≠i)->oi.apart ops oj=true)->(∀j oj,ops[j]?=some oj->j≠i->listed.getD j true=false->conf (eV m i) (eV m j)=true->dep ops i N j=true)->i∈Region.ready .any ops listed->nk P cx ops (eV m i) oi x st.sl st.tb aM->nh P cx m ops K fuel (listed.setIfInBounds i true) ⟨eL st.sl oi.dst x,aM⟩->nh P cx m ops K (fuel+1) listed st:=by
 have first:∀{st:AS} {aM:Tb} {K':AS->Prop},nk P cx ops (eV m i) oi x st.sl st.tb aM->K' ⟨eL st.sl oi.dst x,aM⟩->PG P cx m ops i K' st:=fun hy hk=>by
  unfold PG;rw[hi];exact⟨x,_,hy,hk⟩
 intro fuel
 induction fuel with
 |zero=>
  intro listed st aM _ _ _ hr hy H;refine⟨fun h=>(by rw[h]at hr;cases hr),fun j hj=>?_⟩;by_cases hji:j=i
  ·subst hji;exact first hy H
  ·have:=ready_mono hj hji;rw[H.1]at this;cases this
 |succ fuel ih=>
  intro listed st aM hD hfree VJ hr hy H;refine⟨fun h=>(by rw[h]at hr;cases hr),fun j hj=>?_⟩;by_cases hji:j=i
  ·subst hji;exact first hy H
  ·have h1:=H.2 j (ready_mono hj hji);obtain⟨Uf,oj,hoj,hall⟩:=mem_ready.1 hj;have ZD:=(mem_ready.1 hr).1;have VK:listed.getD i false=true->False:=fun h1=>by
    rcases Nat.lt_or_ge i listed.size with h'|h'
    ·simp[h']at ZD h1;rw[ZD]at h1;cases h1
    ·simp[Array.getElem?_eq_none h']at ZD
   have hnot:∀e∈oj.after,Region.binds .any e=true->e.on≠i:=fun e he hb heq=>VK (heq▸hall e he hb);have hcf:conf (eV m i) (eV m j)=false:=by
    cases hc:conf (eV m i) (eV m j)with
    |false=>rfl
    |true=>
     have hd:=VJ j oj hoj hji Uf hc;exact(VK (zS hD N j (fun ok hk e he hb=>by rw[hoj]at hk;injection hk with hk;subst hk;exact hall e he hb) hd)).elim
   unfold PG at h1;rw[hoj]at h1;obtain⟨u,t2,hu,hk⟩:=h1;obtain⟨t3,e1,e2⟩:=nk.comm hcf (hfree j oj hoj hji Uf hnot) hy hu;unfold PG;rw[hoj];refine⟨u,t3,e1,?_⟩;have lift:∀k,(listed.setIfInBounds j true).getD k true=false->listed.getD k true=false:=fun k hun=>by
    by_cases hjk:j=k
    ·subst hjk;exact Uf
    ·rw[getD_set_ne true hjk]at hun;exact hun
   refine ih (listed.setIfInBounds j true) ⟨eL st.sl oj.dst u,t3⟩ t2 (hD.set hj) (fun k ok hk hki hun hno=>hfree k ok hk hki (lift k hun) hno) (fun k ok hk hki hun hc=>VJ k ok hk hki (lift k hun) hc) (ready_mono hr (Ne.symm hji)) e2 ?_;obtain⟨p1,p2,p3⟩:=Oper.apart_spec (hfree j oj hoj hji Uf hnot);have hk':nh P cx m ops K fuel ((listed.setIfInBounds i true).setIfInBounds j true) ⟨eL (eL st.sl oi.dst x) oj.dst u,t2⟩:=hk;rw[Lh st.sl x u p2,Array.setIfInBounds_comm _ _ (Ne.symm hji)]at hk';exact hk'
end
end Go.Av
