/- TiersAgain, part 3: an abstract interpreter over any program's form, with its proof of soundness; no condition. -/
import Derived.Test.YtgkdpbambfgahaaGreatDoorWab
import Derived.Laws.StructEq
import Derived.ChangeKeysEq
import Derived.Lib.SliceRun
import Derived.Laws.Pointers
import Derived.WalkSpells
import Derived.Laws.MakeOwn
set_option linter.all false
set_option maxRecDepth 100000
set_option maxHeartbeats 64000000
namespace Go.Av
open Go.RowKit
theorem Jd{place:Nat->Option (Nat×Nat)}{s:Nat}(hp:∀i,place i=some (i*s,s)):∀(vs:List Value) (k:Nat) (cs:Array Value),(∀v∈vs,v.cells.size=s)->cs.size=(k+vs.length)*s->∃ds,Instr.fill place cs ((vs.zipIdx k).map λp=>(p.2,p.1))=some ds/\ds.toList=cs.toList.take (k*s)++cellsOf vs
 |[],k,cs,_,hs=>⟨cs,rfl,by grind [cellsOf,gv]⟩
 |v::vs,k,cs,hv,hs=>by
  have hv0:=hv v H;simp only[cF]at hs;have e1:(k+(vs.length+1))*s=k*s+s+vs.length*s:=by grind
  have hle:k*s+0+v.cells.toList.length<=cs.size:=by grind
  have iG:=EN v.cells.toList 0 (k*s) cs hle;simp only[qQ]at iG;have VR:v.cells.zipIdx.foldl (λcs (c,j)=>cs.setIfInBounds (k*s+j) c) cs=(v.cells.toList.zipIdx 0).foldl (λcs (p:Value×Nat)=>cs.setIfInBounds (k*s+p.2) p.1) cs:=by
   rw[<-Array.foldl_toList];simp
  generalize hd:(v.cells.toList.zipIdx 0).foldl (λcs (p:Value×Nat)=>cs.setIfInBounds (k*s+p.2) p.1) cs=ds at iG VR;have arc:ds.size=cs.size:=by
   have:=dg List.length iG;grind
  obtain⟨es,f1,f2⟩:=Jd hp vs (k+1) ds (λu hu=>hv u (by grind)) (by grind);refine⟨es,?_,?_⟩
  .grind [List.zipIdx_cons,Instr.fill]
  grind [gv,cellsOf]
section
variable{P:Program}{st:AS}{o:Oper}
def bW{α:Type}:Nat->List (Nat×α)->Bool
 |_,[]=>true
 |k,(i,_)::l=>i==k&&bW (k+1) l
theorem z_{α:Type}:∀(l:List (Nat×α)) (k:Nat),bW k l=true->l=((l.map (·.2)).zipIdx k).map λp=>(p.2,p.1)
 |[],_,_=>rfl
 |(i,v)::l,k,h=>by
  simp only[bW,bG,ri]at h;obtain⟨rfl,h⟩:=h;simp only[dB,List.zipIdx_cons];rw[<-z_ l (i+1) h]
def lZ{t e:TypeId}{sz dQ n:Nat}{ps:List (Nat×Value)}{w:World}(ht:dF P t=some (e,sz,dQ))(hio:bW 0 ps=true)(hn:ps.length=n)(wY:n*sz<=16777216)(hsz:0<sz)(hv:∀v∈ps.map (·.2),v.cells.size=sz):(Instr.buildSlice t n ps.toArray).run P w= .ok (.slice (some ⟨w.heap.size,0,none⟩) n n) (w.alloc (.cells (cellsOf (ps.map (·.2))).toArray e)):=by
 obtain⟨hU,i,z,hi,hz,r6,Gt,hzs⟩:=iq ht;subst r6;have ak4:¬(16777216<n*i.size):=O;obtain⟨ds,f1,f2⟩:=Jd (place:=λk=>some (k*i.size,i.size)) (λ_=>rfl) (ps.map (·.2)) 0 ((Array.range (n*i.size)).map (z.cells[·%z.cells.size]!)) hv (by grind);rw[<-z_ ps 0 hio]at f1;have hds:ds=(cellsOf (ps.map (·.2))).toArray:=by
  grind
 subst hds;by_cases h0:n*i.size=0
 .have hn0:n=0:=by
   grind [Nat.mul_eq_zero]
  subst hn0;have:ps=[]:=o5 hn;subst this;simp[Instr.buildSlice,run_underlying hU,sizeOf,typeInfo,hi,Instr.fill,newRow,cellsOf]
  grind
 .have DV:(0<n/\0<i.size):=⟨by grind,hsz⟩;simp only[Instr.buildSlice,Sem.run_bind,run_underlying hU,Result.andThen_ok,sizeOf,typeInfo,run_program,hi,Sem.run_pure,zeroValue,hz,ah h0,ah ak4,f1,newRow,run_newObj_alloc]
theorem Je:∀(l:List AV) (ys:List PC),fS l=some ys->ys.length=l.length
 |[],ys,h=>by grind [fS]
 |x::l,ys,h=>by
  cases x<;>simp only[fS]at h<;>try cases h
  split at h
  .rename_i r hr;injection h with h;subst h;simp[Je l r hr]
  grind
theorem IV{t e:TypeId}{sz dQ n:Nat}{ps:Array (Nat×Operand)}{ys:List PC}{sl:Nat->AV}(ho:o.op= .buildSlice t n ps)(ht:dF P t=some (e,sz,dQ))(hsz:0<sz)(hio:bW 0 ps.toList=true)(hn:ps.size=n)(wY:n*sz<=16777216)(hys:fS (ps.toList.map λp=>(bT sl p.2).nm)=some ys)(hw':∀y∈ys,y.width=sz)(h1:∀y∈ys,∀b xs,y= .agg b xs->b=false):dy P sl o (.full ys):=FU λw0 M0 F tb g a w hw h=>by
 have hr:=nT (g:=g) (a:=a) (ps.toList.map (·.2)) ys (λy hy=>h y (by grind [Op.operands])) (by rw[jF];exact hys);have rG:=ew hr hw';have CL:(((ps.map λ(i,x)=>(i,a.eval x)).toList).map (·.2))=(ps.toList.map (·.2)).map a.eval:=H;have LK:bW 0 ((ps.map λ(i,x)=>(i,a.eval x)).toList)=true:=by
  have key:∀(l:List (Nat×Operand)) (k:Nat),bW k l=true->bW k (l.map λp=>(p.1,a.eval p.2))=true:=by
   intro l
   induction l with
   |nil=>intro k _;rfl
   |cons p l ih=>grind [bW]
  simp_all
 have hrun:=lZ (P:=P) (w:=w) (n:=n) ht LK (by grind) wY hsz (by grind);rw[CL]at hrun;have hone:∀u∈cellsOf ((ps.toList.map (·.2)).map a.eval),u.oneCell'=true:=by
  have key:∀{us:List Value} {ys:List PC},dh g.M us ys->(∀y∈ys,∀b xs,y= .agg b xs->b=false)->∀u∈cellsOf us,u.oneCell'=true:=by
   intro us ys hr
   induction us generalizing ys with
   |nil=>grind [cellsOf]
   |cons v us ih=>
    intro hb u hu;cases hr with
    |cons hv hr=>
     rename_i y ys;simp only[cellsOf,cU,lD]at hu;rcases hu with hu|hu
     .have hby:=hb y H;by_cases hp:y.plain=true
      .grind [jZ]
      .cases y with
       |agg b xs=>
        have:=hby b xs rfl;subst this;cases hv with
        |agg hs h1=>grind [Value.cells]
       |_=>simp[PC.plain]at hp
     .exact ih hr (λy hy=>hb y (by grind)) u hu
  grind
 obtain⟨e1,e2,e3,e4,e5⟩:=FT hw (cellsOf ((ps.toList.map (·.2)).map a.eval)) e (0,0);have hlen:ys.length=n:=by have:=Je _ _ hys;grind
 refine⟨.slice (some ⟨w.heap.size,0,none⟩) n n,_,_,?_,e1,e2,e3,e4,.full (.sl (sz:=sz) (by grind) (aX _) ?_ hsz rG hone e5 (hr.mono e1))⟩
 .have afo:ps.map (λ(p:Nat×Operand)=>(p.1,a.eval p.2))=((ps.map λ(i,x)=>(i,a.eval x)).toList).toArray:=by grind
  simp only[execOp,ho,Sem.run_bind];have CM:(Instr.buildSlice t n (ps.map λ(x:Nat×Operand)=>(x.1,a.eval x.2))).run P w= .ok (.slice (some ⟨w.heap.size,0,none⟩) n n) (w.alloc (.cells (cellsOf ((ps.toList.map (·.2)).map a.eval)).toArray e)):=O;rw[CM];rfl
 .have:n*1<=n*sz:=F7 _ hsz
  grind [maxLen]
end
def AV.cp(ρ:Nat->Nat):AV->AV
 | .obj id off=> .obj (ρ id) off
 | .own id xs=> .own (ρ id) xs
 | .agg t xs=> .agg t (eu xs)
 | .mB f xs=> .mB f (eu xs)
 | .pK f xs=> .pK f (eu xs)
 | .o_ t x=> .o_ t (x.cp ρ)
 | .p x=> .p x
 | .full xs=> .full xs
 | .nn xs=> .nn xs
 | .view id o n s c=> .view (ρ id) o n s c
 | .any=> .any
where eu:List AV->List AV
 |[]=>[]
 |x::l=>x.cp ρ::eu l
def AV.ja(m:Nat):AV->Bool
 | .obj id _=>decide (id<m)
 | .own id _=>decide (id<m)
 | .view id _ _ _ _=>decide (id<m)
 | .agg _ xs=>iA xs
 | .mB _ xs=>iA xs
 | .pK _ xs=>iA xs
 | .o_ _ x=>x.ja m
 |_=>true
where iA:List AV->Bool
 |[]=>true
 |x::l=>x.ja m&&iA l
def G.cp(g:G)(ρ:Nat->Nat)(m:Nat):G:=⟨g.M,λi=>if i<m then g.ob (ρ i)else none,λi=>if i<m then g.rv (ρ i)else none⟩
mutual
theorem Dh{g:G}{ρ:Nat->Nat}{m:Nat}:∀{v:Value} (x:AV),bJ g v (x.cp ρ)->x.ja m=true->bJ (g.cp ρ m) v x
 |v,.p y,h,_=>by simp only[AV.cp]at h;cases h with|p h1=>exact .p h1
 |v,.obj id off,h,hl=>by
  simp only[AV.cp]at h;simp only[AV.ja,eZ]at hl;cases h with|obj e=>exact .obj (by simp only[G.cp];rw[ai hl];exact e)
 |v,.own id xs,h,hl=>by
  simp only[AV.cp]at h;simp only[AV.ja,eZ]at hl;cases h with|own e hr=>exact .own (by grind [G.cp]) hr
 |v,.full xs,h,_=>by simp only[AV.cp]at h;cases h with|full hr=>exact .full hr
 |v,.nn xs,h,_=>by simp only[AV.cp]at h;cases h with|nn hr=>exact .nn hr
 |v,.view id o n s c,h,hl=>by
  simp only[AV.cp]at h;simp only[AV.ja,eZ]at hl;cases h with|view e h1 h2 h3 h4=>exact .view (by grind [G.cp]) h1 h2 h3 h4
 |v,.agg t xs,h,hl=>by
  simp only[AV.cp]at h;simp only[AV.ja]at hl;cases h with
  |agg hs h1=>exact .agg (ie xs hs hl) h1
  |sE hs=>exact .sE (ie xs hs hl)
 |v,.mB f xs,h,hl=>by
  simp only[AV.cp]at h;simp only[AV.ja]at hl;cases h with
  |mB hs=>exact .mB (ie xs hs hl)
 |v,.pK f xs,h,hl=>by
  simp only[AV.cp]at h;simp only[AV.ja]at hl;cases h with
  |pK hs=>exact .pK (ie xs hs hl)
 |v,.o_ t x,h,hl=>by
  simp only[AV.cp]at h;simp only[AV.ja]at hl;cases h with
  |o_ h1=>exact .o_ (Dh x h1 hl)
 |v,.any,_,_=> .any v
theorem ie{g:G}{ρ:Nat->Nat}{m:Nat}:∀{vs:List Value} (xs:List AV),aV g vs (AV.cp.eu ρ xs)->AV.ja.iA m xs=true->aV (g.cp ρ m) vs xs
 |_,[],h,_=>by simp only[AV.cp.eu]at h;cases h;exact .nil
 |_,x::xs,h,hl=>by
  simp only[AV.cp.eu]at h;simp only[AV.ja.iA,bG]at hl;cases h with|cons h1 hs=>exact .cons (Dh x h1 hl.1) (ie xs hs hl.2)
end
theorem jO{ρ:Nat->Nat}:∀(xs:List AV),(AV.cp.eu ρ xs).length=xs.length
 |[]=>rfl
 |_::l=>by simp[AV.cp.eu,jO l]
section
variable{w0:World}{M0:Mem}{F:Nat->Prop}{tb:Tb}{g:G}{w:World}
def VK:Option Ob->Ob->Prop
 |some p,o=>p.el=o.el/\p.sz=o.sz/\o.xs<+:p.xs
 |none,_=>False
def uw(ρ:Nat->Nat)(m:Nat)(bx:List (Nat×Ob)):List (Nat×Ob)->Prop
 |[]=>True
 |(i,o)::l=>i<m/\AV.ja.iA m o.xs=true/\VK (lk (ρ i) bx) {o with xs:=AV.cp.eu ρ o.xs}/\uw ρ m bx l
def Qz(ρ:Nat->Nat)(m:Nat)(rw:List (Nat×TypeId×Nat)):List (Nat×TypeId×Nat)->Prop
 |[]=>True
 |(i,r)::l=>i<m/\lk (ρ i) rw=some r/\Qz ρ m rw l
def oP{α:Type}(ρ:Nat->Nat):List (Nat×α)->Prop
 |[]=>True
 |(i,_)::l=>C3 i l/\oP ρ l
where C3 (i:Nat):List (Nat×α)->Prop
 |[]=>True
 |(j,_)::l=>(i=j\/ρ i≠ρ j)/\C3 i l
theorem xI{ρ:Nat->Nat}{m:Nat}{bx:List (Nat×Ob)}{i:Nat}{o:Ob}:∀(l:List (Nat×Ob)),uw ρ m bx l->lk i l=some o->i<m/\AV.ja.iA m o.xs=true/\∃p,lk (ρ i) bx=some p/\p.el=o.el/\p.sz=o.sz/\AV.cp.eu ρ o.xs<+:p.xs
 |[],_,h=>by simp[lk]at h
 |(j,p)::l,hr,h=>by
  simp only[lk]at h;split at h
  .rename_i e;subst e;injection h with h;subst h;have h3:=hr.2.2.1;cases hp:lk (ρ i) bx with
   |none=>rw[hp]at h3;exact h3.elim
   |some p=>rw[hp]at h3;exact⟨hr.1,hr.2.1,p,rfl,h3.1,h3.2.1,h3.2.2⟩
  .exact xI l hr.2.2.2 h
theorem xJ{ρ:Nat->Nat}{m:Nat}{rw:List (Nat×TypeId×Nat)}{i:Nat}{r:TypeId×Nat}:∀(l:List (Nat×TypeId×Nat)),Qz ρ m rw l->lk i l=some r->i<m/\lk (ρ i) rw=some r
 |[],_,h=>by simp[lk]at h
 |(j,p)::l,hr,h=>by
  simp only[lk]at h;split at h
  .rename_i e;subst e;injection h with h;subst h;exact⟨hr.1,hr.2.1⟩
  .exact xJ l hr.2.2 h
theorem Di{α:Type}{ρ:Nat->Nat}{i j:Nat}{o:α}:∀(l:List (Nat×α)),oP.C3 ρ i l->lk j l=some o->i=j\/ρ i≠ρ j
 |[],_,h=>by simp[lk]at h
 |(k,p)::l,hr,h=>by
  simp only[lk]at h;split at h
  .rename_i e;subst e;exact hr.1
  .exact Di l hr.2 h
theorem G3{α:Type}{ρ:Nat->Nat}{i j:Nat}{o p:α}:∀(l:List (Nat×α)),oP ρ l->lk i l=some o->lk j l=some p->i≠j->ρ i≠ρ j
 |[],_,h,_,_=>by simp[lk]at h
 |(k,q)::l,hr,h1,h2,hij=>by
  simp only[lk]at h1 h2;split at h1
  .rename_i e;subst e;rw[ah (λh=>hij h.symm)]at h2;exact(Di l hr.1 h2).resolve_left hij
  .split at h2
   .rename_i e;subst e;exact λh=>((Di l hr.1 h1).resolve_left λh=>hij h.symm) h.symm
   .exact G3 l hr.2 h1 h2 hij
theorem bf.cp(h:bf w0 M0 F tb g w){ρ:Nat->Nat}{a_:Tb}(hb:uw ρ a_.nx tb.bx a_.bx)(hr:Qz ρ a_.nx tb.rw a_.rw)(ib:oP ρ a_.bx)(ir:oP ρ a_.rw):bf w0 M0 F a_ (g.cp ρ a_.nx) w:=by
 have Wx:∀i p,(g.cp ρ a_.nx).ob i=some p->g.ob (ρ i)=some p:=λi p e=>by
  grind [G.cp]
 have Wy:∀i p,(g.cp ρ a_.nx).rv i=some p->g.rv (ρ i)=some p:=λi p e=>by
  grind [G.cp]
 refine⟨h.holds,h.keep,h.old,h.HC,λi o e=>?_,λi el sz e=>?_,λi j o p b c b' c' ei ej hij e1 e2 p1 p2=>?_,λi j r s u v b ei ej hij e1 e2 e3=>?_,λi j o r b c v ei ej e1 e2 p1=>?_,λi hi=>?_⟩
 .obtain⟨h1,h2,p,h3,q1,q2,q3⟩:=xI _ hb e;obtain⟨b,c,f1,fr,f0⟩:=h.boxes _ _ h3;have hlen:=q3.length_le;simp only[jO]at hlen;refine⟨b,c,by grind [G.cp],λhp=>?_,λhz=>?_⟩
  .obtain⟨cur,f2,f3,f4,f5,f6,f7,f8,f9⟩:=fr hp;refine⟨cur,f2,f3,by grind,by grind,f6,O,ie _ ?_ h2,f9⟩;have e1:(p.xs.take o.xs.length)=AV.cp.eu ρ o.xs:=by
    obtain⟨t,ht⟩:=q3
    grind [jO]
   have:=f8.take o.xs.length
   grind
  simp_all
 .obtain⟨h1,h2⟩:=xJ _ hr e;obtain⟨v,f1,f2⟩:=h.rows _ _ _ h2;exact⟨v,by grind [G.cp],f2⟩
 .obtain⟨_,_,_,h3,_⟩:=xI _ hb ei;obtain⟨_,_,_,h4,_⟩:=xI _ hb ej;exact h.iC _ _ _ _ b c b' c' h3 h4 (G3 _ ib ei ej hij) (Wx _ _ e1) (Wx _ _ e2) p1 p2
 .obtain⟨_,h3⟩:=xJ _ hr ei;obtain⟨_,h4⟩:=xJ _ hr ej;exact h.jA _ _ _ _ u v b h3 h4 (G3 _ ir ei ej hij) (Wy _ _ e1) (Wy _ _ e2) e3
 .obtain⟨_,_,_,h3,_⟩:=xI _ hb ei;obtain⟨_,h4⟩:=xJ _ hr ej;exact h.gS _ _ _ _ b c v h3 h4 (Wx _ _ e1) (Wy _ _ e2) p1
 grind [G.cp]
theorem G.mS{g0 g:G}{ρ:Nat->Nat}{m iM:Nat}(h:g0.le g)(h0:∀i,iM<=i->g0.ob i=none/\g0.rv i=none)(hm:iM<=m)(hρ:∀i,i<iM->ρ i=i):g0.le (g.cp ρ m):=by
 refine⟨h.M,λi p e=>?_,λi v e=>?_⟩
 .have hi:i<iM:=Nat.lt_of_not_le λhle=>by grind
  simp only[G.cp];rw[ai O,hρ i hi];exact h.ob _ _ e
 .have hi:i<iM:=Nat.lt_of_not_le λhle=>by grind
  simp only[G.cp];rw[ai O,hρ i hi];exact h.rv _ _ e
def aA{α:Type}(bx:List (Nat×α)):List (Nat×α)->Prop
 |[]=>True
 |(i,o)::l=>lk i bx=some o/\aA bx l
theorem gI{α:Type}{bx:List (Nat×α)}{i:Nat}{o:α}:∀(l:List (Nat×α)),aA bx l->lk i l=some o->lk i bx=some o
 |[],_,h=>by simp[lk]at h
 |(j,p)::l,hr,h=>by
  simp only[lk]at h;split at h
  .rename_i e;subst e;injection h with h;subst h;exact hr.1
  .exact gI l hr.2 h
def cX{α:Type}:List (Nat×α)->List (Nat×α)->List (Nat×α)
 |[],l=>l
 |(i,_)::s,l=>del i (cX s l)
theorem ql{α:Type}{i:Nat}{o:α}:∀(s l:List (Nat×α)),lk i (cX s l)=some o->lk i s=none/\lk i l=some o
 |[],l,h=>⟨rfl,h⟩
 |(j,p)::s,l,h=>by
  simp only[cX,cQ]at h;split at h
  .grind
  .rename_i hne;obtain⟨h1,h2⟩:=ql s l h
   grind [lk]
theorem kf{α:Type}{i:Nat}{o:α}:∀(s l:List (Nat×α)),lk i (s++l)=some o->lk i s=some o\/lk i l=some o
 |[],l,h=> .inr h
 |(j,p)::s,l,h=>by
  simp only[kP,lk]at h⊢;split at h
  .grind
  .rename_i e;rw[ah e];exact kf s l h
def Tb.merge(tb ts ts':Tb):Tb:=⟨ts'.bx++cX ts.bx tb.bx,ts'.rw++cX ts.rw tb.rw,ts'.nx⟩
def LD(g:G)(ts:Tb):Nat->Prop:=λb=>(∃id o c,lk id ts.bx=some o/\g.ob id=some (b,c)/\0<c)\/∃id r v,lk id ts.rw=some r/\g.rv id=some v/\fO v=some b
def bf.part(h:bf w0 M0 F tb g w){ts:Tb}(hb:aA tb.bx ts.bx)(hr:aA tb.rw ts.rw)(hn:ts.nx=tb.nx):bf w g.M (LD g ts) ts g w:=by
 refine⟨h.holds,vj.refl _ _,λ_ _ _=>rfl,Mem.le_refl _,λi o e=>?_,λi el sz e=>?_,λi j o p b c b' c' ei ej hij e1 e2 p1 p2=>?_,λi j r s u v b ei ej hij e1 e2 e3=>?_,λi j o r b c v ei ej e1 e2 p1=>?_,λi hi=>h.fresh i O⟩
 .obtain⟨b,c,f1,fr,f0⟩:=h.boxes _ _ (gI _ hb e);refine⟨b,c,f1,λhp=>?_,f0⟩;obtain⟨cur,f2,f3,f4,f5,f6,f7,f8,f9⟩:=fr hp;exact⟨cur,.inr (.inl ⟨i,o,c,e,f1,hp⟩),f3,f4,f5,f6,f7,f8,f9⟩
 .obtain⟨v,f1,f2⟩:=h.rows _ _ _ (gI _ hr e);refine⟨v,f1,f2.imp (λh=>h) ?_⟩;rintro⟨b,n,cap,cur,h3,h4,h5,h6,h7,h8,h9,h10,h11⟩;exact⟨b,n,cap,cur,h3,.inr (.inr ⟨i,_,v,e,f1,by grind [ey]⟩),h5,h6,h7,h8,h9,h10,h11⟩
 .exact h.iC i j o p b c b' c' (gI _ hb ei) (gI _ hb ej) hij e1 e2 p1 p2
 .exact h.jA i j r s u v b (gI _ hr ei) (gI _ hr ej) hij e1 e2 e3
 .exact h.gS i j o r b c v (gI _ hb ei) (gI _ hr ej) e1 e2 p1
def bf.back(h:bf w0 M0 F tb g w){ts ts':Tb}{g':G}{w':World}(hb:aA tb.bx ts.bx)(hr:aA tb.rw ts.rw)(hle:g.le g')(k:bf w g.M (LD g ts) ts' g' w'):bf w0 M0 F (tb.merge ts ts') g' w':=by
 have hF:∀b,LD g ts b->w0.heap.size<=b\/F b:=λb hf=>by
  rcases hf with⟨id,o,c,e,e1,hp⟩|⟨id,r,v,e,e1,e2⟩
  .obtain⟨cur,f2,_⟩:=(h.boxes _ _ (gI _ hb e)).real e1 hp;omega
  .obtain⟨v',f1,f2⟩:=h.rows _ r.1 r.2 (gI _ hr e)
   grind [iW,ey]
 have Kg:∀i o b c,lk i (cX ts.bx tb.bx)=some o->g'.ob i=some (b,c)->0<c->lk i tb.bx=some o/\g.ob i=some (b,c)/\b<w.heap.size/\¬LD g ts b:=λi o b c e e1 hp=>by
  obtain⟨d1,d2⟩:=ql _ _ e;obtain⟨b',c',f1,fr,_⟩:=h.boxes _ _ d2;have:=hle.ob _ _ f1;rw[e1]at this;injection this with this;injection this with t1 t2;subst t1;subst t2;obtain⟨cur,f2,f3,⟨tt,fz,f4,fo⟩,_⟩:=fr hp;refine⟨d2,f1,AK f4,?_⟩;rintro(⟨j,p,c',ej,e2,hp'⟩|⟨j,r,v,ej,e2,e3⟩)
  .exact h.iC i j _ _ b c b c' d2 (gI _ hb ej) (λhij=>by grind) f1 e2 hp hp' rfl
  .exact h.gS i j _ _ b c v d2 (gI _ hr ej) f1 e2 hp e3
 have hrw:∀i r v,lk i (cX ts.rw tb.rw)=some r->g'.rv i=some v->lk i tb.rw=some r/\g.rv i=some v/\∀b,fO v=some b->b<w.heap.size/\¬LD g ts b:=λi r v e e1=>by
  obtain⟨d1,d2⟩:=ql _ _ e;obtain⟨v',f1,_⟩:=h.rows _ r.1 r.2 d2;have:=hle.rv _ _ f1;rw[e1]at this;injection this with this;subst this;refine⟨d2,f1,λb hv=>⟨h.MA d2 f1 hv,?_⟩⟩;rintro(⟨j,p,c',ej,e2,hp'⟩|⟨j,s,u,ej,e2,e3⟩)
  .exact h.gS j i _ _ b c' v (gI _ hb ej) d2 e2 f1 hp' hv
  .exact h.jA i j _ _ v u b d2 (gI _ hr ej) (λhij=>by grind) f1 e2 hv e3
 have kbx:∀i o b c,lk i ts'.bx=some o->g'.ob i=some (b,c)->0<c->w.heap.size<=b\/LD g ts b:=λi o b c e e1 hp=>by
  obtain⟨cur,f2,_⟩:=(k.boxes _ _ e).real e1 hp;omega
 have krw:∀i r v b,lk i ts'.rw=some r->g'.rv i=some v->fO v=some b->w.heap.size<=b\/LD g ts b:=λi r v b e e1 e2=>by
  obtain⟨v',f1,f2⟩:=k.rows _ r.1 r.2 e
  grind [iW,ey]
 have hsz:=h.keep.size;have up:∀b,(w.heap.size<=b\/LD g ts b)->w0.heap.size<=b\/F b:=λb hb=>hb.elim (λhb=> .inl O) (hF b);have apart:∀b b',b<w.heap.size/\¬LD g ts b->(w.heap.size<=b'\/LD g ts b')->b≠b':=λb b' h1 h2 e=>by
  grind
 refine⟨k.holds,h.keep.trans k.keep λb hb hf=>?_,λb hb hf=>?_,h.HC.trans hle.M,λi o e=>?_,λi el sz e=>?_,λi j o p b c b' c' ei ej hij e1 e2 p1 p2=>?_,λi j r s u v b ei ej hij e1 e2 e3=>?_,λi j o r b c v ei ej e1 e2 p1=>?_,k.fresh⟩
 .grind
 .rw[k.old b O (λhf'=>by grind)];exact h.old b hb hf
 .simp only[Tb.merge]at e;rcases kf _ _ e with e|e
  .obtain⟨b,c,f1,fr,f0⟩:=k.boxes _ _ e;refine⟨b,c,f1,λhp=>?_,f0⟩
   grind
  .obtain⟨d1,d2⟩:=ql _ _ e;obtain⟨b,c,f1,fr,f0⟩:=h.boxes _ _ d2;refine⟨b,c,hle.ob _ _ f1,λhp=>?_,f0⟩;obtain⟨cur,f2,f3,⟨tt,fz,f4,fo⟩,f5,f6,f7,f8,f9⟩:=fr hp;obtain⟨_,_,h3,h4⟩:=Kg i o b c e (hle.ob _ _ f1) hp;exact⟨cur,f2,λoff=>by rw[k.old b h3 h4];grind,⟨tt,fz,(k.keep.block b h3 h4).trans f4,fo⟩,f5,f6,f7,f8.mono hle,f9⟩
 .simp only[Tb.merge]at e;rcases kf _ _ e with e|e
  .obtain⟨v,f1,f2⟩:=k.rows _ _ _ e;refine⟨v,f1,f2.imp (λh=>h) ?_⟩;rintro⟨b,n,cap,cur,h3,h4,h5⟩;exact⟨b,n,cap,cur,h3,up b h4,h5⟩
  .obtain⟨d1,d2⟩:=ql _ _ e;obtain⟨v,f1,f2⟩:=h.rows _ _ _ d2;obtain⟨_,_,h3⟩:=hrw i _ v e (hle.rv _ _ f1);refine⟨v,hle.rv _ _ f1,f2.imp (λh=>h) ?_⟩;rintro⟨b,n,cap,cur,g3,g4,⟨tt,fz,g5,fo⟩,g6,g7,g8,g9,g10,g11⟩;obtain⟨q1,q2⟩:=h3 b (by grind [ey]);exact⟨b,n,cap,cur,g3,g4,⟨tt,fz,(k.keep.block b q1 q2).trans g5,fo⟩,g6,g7,g8,g9,g10.mono hle.M,λo v e=>g11 o v (by rw[<-k.old b q1 q2];omega)⟩
 .simp only[Tb.merge]at ei ej;rcases kf _ _ ei with ei|ei<;>rcases kf _ _ ej with ej|ej
  .exact k.iC i j o p b c b' c' ei ej hij e1 e2 p1 p2
  .grind
  .grind
  .obtain⟨q1,q2,_⟩:=Kg i o b c ei e1 p1;obtain⟨q3,q4,_⟩:=Kg j p b' c' ej e2 p2;exact h.iC i j o p b c b' c' q1 q3 hij q2 q4 p1 p2
 .simp only[Tb.merge]at ei ej;rcases kf _ _ ei with ei|ei<;>rcases kf _ _ ej with ej|ej
  .exact k.jA i j r s u v b ei ej hij e1 e2 e3
  .grind
  .grind
  .obtain⟨q1,q2,_⟩:=hrw i r u ei e1;obtain⟨q3,q4,_⟩:=hrw j s v ej e2;exact h.jA i j r s u v b q1 q3 hij q2 q4 e3
 .simp only[Tb.merge]at ei ej;rcases kf _ _ ei with ei|ei<;>rcases kf _ _ ej with ej|ej
  .exact k.gS i j o r b c v ei ej e1 e2 p1
  .grind
  .grind
  .obtain⟨q1,q2,_⟩:=Kg i o b c ei e1 p1;obtain⟨q3,q4,_⟩:=hrw j r v ej e2;exact h.gS i j o r b c v q1 q3 q2 q4 p1
end
def dm(P:Program)(f:FuncId)(xs:List AV)(tb:Tb)(r:AV)(a_:Tb):Prop:=eE P f/\∀(g:G) (w:World) (vs:List Value) (F:Nat->Prop),bf w g.M F tb g w->aV g vs xs->Calls P f vs.toArray w λe w'=>∃v g',e= .returned v/\g.le g'/\bf w g.M F a_ g' w'/\bJ g' v r
end Go.Av
namespace Go.Av
open Go.RowKit
def DJ(P:Program)(t:TypeId):Option (List (Nat×TypeId)):=match P.underlying t with
 |some (.struct fs)=>if fs.toList.all (λf=>f.name !="_")=true then some (fs.toList.map λf=>(f.offset,f.type))else none
 |_=>none
def uB(P:Program)(t:TypeId):Bool:=!P.stoodInHeld t&&!P.eqGuardType P.depth t
def Yq(P:Program)(t:TypeId):PC->PC->Option Bool
 | .sc (.int k a),.sc (.int k' b)=>if Av.intOf P t=some k/\k=k' then some (a==b)else none
 | .sc (.string a),.sc (.string b)=>if isStr P t=true then some (bs a==bs b)else none
 | .sc (.bool a),.sc (.bool b)=>if isBool P t=true then some (a==b)else none
 |_,_=>none
def Xz(P:Program)(xs ys:List PC):List (Nat×TypeId)->Option Bool
 |[]=>some true
 |(o,t)::l=>match xs[o]?,ys[o]? with
  |some x,some y=>(match Yq P t x y,Xz P xs ys l with
   |some a,some b=>some (a&&b)
   |_,_=>none)
  |_,_=>none
def eqL(P:Program)(xs ys:List PC):Option (List (Nat×TypeId))->Option Bool
 |some l=>Xz P xs ys l
 |none=>none
def yh{M:Mem}{u v:Value}(h:jc M u (.sc v)):u=v:=by cases h;rfl
def Yr{P:Program}{M:Mem}{t:TypeId}{x y:PC}{r:Bool}{u v:Value}(h:Yq P t x y=some r)(hu:jc M u x)(hv:jc M v y)(d:Nat)(w:World):(Op.equalIn (d+1) t u v).run P w= .ok r w/\P.plainKey t=true:=by
 unfold Yq at h;split at h
 .split at h
  .rename_i hc;obtain⟨h1,rfl⟩:=hc;obtain rfl:=yh hu;obtain rfl:=yh hv;injection h with h;unfold intOf at h1;split at h1
   .rename_i k hk;injection h1 with h1;subst h1;exact⟨by simp[Op.equalIn,run_underlying hk,<-h],by simp[Program.plainKey,hk]⟩
   grind
  grind
 .split at h
  .rename_i hc;obtain rfl:=yh hu;obtain rfl:=yh hv;injection h with h;have hk:P.underlying t=some .string:=by
    grind [isStr]
   rename_i a b;have e:(a==b)=r:=by grind [beq_toListBytes,toList_bs]
   exact⟨by simp[Op.equalIn,run_underlying hk,e],by simp[Program.plainKey,hk]⟩
  grind
 .split at h
  .rename_i hc;obtain rfl:=yh hu;obtain rfl:=yh hv;injection h with h;have hk:P.underlying t=some .bool:=by
    grind [isBool]
   exact⟨by simp[Op.equalIn,run_underlying hk,<-h],by simp[Program.plainKey,hk]⟩
  grind
 grind
theorem ME{P:Program}{M:Mem}{us vs:List Value}{xs ys:List PC}(hu:dh M us xs)(hv:dh M vs ys)(d:Nat)(w:World):∀(fs:List Field) (r:Bool),(∀f∈fs,f.name≠"_")->Xz P xs ys (fs.map λf=>(f.offset,f.type))=some r->(Op.eqFields (d+1) us.toArray vs.toArray fs).run P w= .ok r w
 |[],r,_,h=>by simp[Xz]at h;subst h;simp[Op.eqFields]
 |f::fs,r,hn,h=>by
  simp only[dB,Xz]at h;split at h
  .rename_i x y hx hy;split at h
   .rename_i a b ha hb;injection h with h;obtain⟨u,Ba,J7⟩:=hu.get hx;obtain⟨v,O',zJ⟩:=hv.get hy;obtain⟨h1,h2⟩:=Yr ha J7 zJ d w;have p1:=run_part_plain (P:=P) w h2 (xs:=us.toArray) (off:=f.offset) (v:=u) (by grind);have p2:=run_part_plain (P:=P) w h2 (xs:=vs.toArray) (off:=f.offset) (v:=v) (by grind);have ih:=ME hu hv d w fs b (λg hg=>hn g (by grind)) hb;simp only[Op.eqFields,hn f H,ne_eq,not_false_eq_true,cr,Sem.run_bind,p1,p2,h1,Result.andThen_ok];subst h;cases a
    all_goals simp_all
   grind
  grind
def Ys{P:Program}{M:Mem}{t:TypeId}{us vs:List Value}{xs ys:List PC}{r:Bool}(hu:dh M us xs)(hv:dh M vs ys)(h:eqL P xs ys (DJ P t)=some r)(ho:uB P t=true)(w:World):(Op.equal t (.agg us.toArray) (.agg vs.toArray)).run P w= .ok r w:=by
 unfold DJ at h;split at h
 .rename_i fs hf;split at h
  .rename_i hn;have hfs:P.fieldsOf t=fs:=by simp[Program.fieldsOf,hf]
   simp only[uB,bG,sj]at ho;have:=run_equalIn_struct (P:=P) w 9999 t us.toArray vs.toArray (by grind) ho.1;show(Op.equalIn (9999+1) t (.agg us.toArray) (.agg vs.toArray)).run P w= .ok r w;rw[this,hfs];exact ME hu hv 9998 w fs.toList r (λf hm=>by grind) h
  .simp[eqL]at h
 .simp[eqL]at h
def xm:AV->Option Bool
 | .p .nil=>some true
 | .p (.sl (_::_))=>some false
 | .own _ (_::_)=>some false
 | .full (_::_)=>some false
 | .nn _=>some false
 | .view _ _ (_+1) _ _=>some false
 | .view _ _ _ _ (some (_+1))=>some false
 |_=>none
def vv:AV->Option Bool
 | .p (.sc (.pointer none))=>some true
 | .p (.ref _)=>some false
 | .obj _ _=>some false
 |_=>none
def uD(P:Program)(t:TypeId):Bool:=match P.underlying t with|some (.pointer _)=>true|_=>false
def vw(k:AV->Prop)(op:BinOp):Option Bool->Prop
 |some b=>(op= .eql/\k (.p (.bool b)))\/(op= .neq/\k (.p (.bool !b)))
 |none=>False
def LG(P:Program)(op:BinOp)(t:TypeId)(k:AV->Prop):AV->AV->Prop
 | .p (.agg false ys),.p (.agg false xs)=>uB P t=true/\vw k op (eqL P xs ys (DJ P t))
 |y,x=>bR P op t k x y
def zf(P:Program)(op:BinOp)(t:TypeId)(k:AV->Prop)(x:AV):AV->Prop
 | .p .nil=>(aO P t).isSome=true/\vw k op (xm x)
 | .p (.sc (.pointer none))=>uD P t=true/\vw k op (vv x)
 |y=>LG P op t k y.nm x.nm
def vz(P:Program)(t:TypeId)(k:AV->Prop)(ps:List (Nat×AV)):Prop:=bL P t=true/\match bX P t with
 |some z=>(match rP P t (z.map .p) ps with
  |some zs=>k (.agg false zs)
  |none=>False)
 |none=>False
def cE:PC->Bool
 | .agg b _=>!b
 |_=>true
def DX(P:Program)(t:TypeId)(n:Nat)(k:AV->Prop)(ps:List (Nat×AV)):Prop:=match dF P t with
 |some (_,sz,_)=>0<sz/\bW 0 ps=true/\ps.length=n/\n*sz<=16777216/\match fS (ps.map λp=>p.2.nm)with
  |some ys=>ys.all (λy=>y.width==sz&&cE y)=true/\k (.full ys)
  |none=>False
 |none=>False
def IU(i:Nat)(k:AV->Prop):AV->Prop
 | .agg true xs=>match xs[i]? with
  |some y=>k y
  |none=>False
 |x=>sH i k x.nm
def zg(P:Program)(t:TypeId)(i:Nat)(k:AV->Prop):AV->Prop
 | .agg false xs=>match dw P t i with
  |some (off,s,a)=>match nL off s a xs with
   |some y=>k y
   |none=>False
  |none=>False
 |x=>BL P t i k x.nm
def LH(k:AV->Prop):AV->Prop
 | .obj id off=>k (.obj id off)
 | .o_ t x=>k (.o_ t x)
 |x=>Tg k x.nm
def XE(P:Program)(op:Op)(e:Operand->AV)(k:AV->Prop):Prop:=match op with
 | .build t ps=>vz P t k (gi e ps)
 | .buildSlice t n ps=>DX P t n k (gi e ps)
 | .extract x i=>IU i k (e x)
 | .field t x i=>zg P t i k (e x)
 | .nilCheck x=>LH k (e x)
 | .binOp op t x y _=>zf P op t k (e x) (e y)
 |op=>Pa P op e k
section
variable{P:Program}{sl:Nat->AV}{o:Oper}
theorem afj{x:Operand}{i:Nat}{xs:List AV}{y:AV}(ho:o.op= .extract x i)(hx:bT sl x= .agg true xs)(hy:xs[i]?=some y):dy P sl o y:=eU λw0 M0 F tb g a w hw h=>by
 have h1:=h x (by simp[ho,Op.operands]);rw[hx]at h1;generalize hv:a.eval x=v at h1;cases h1 with
 |sE hs=>
  obtain⟨u,hu,hr⟩:=hs.get hy;exact⟨u,by simp[execOp,ho,hv,Instr.extract,hu],hr⟩
theorem Ve{t:TypeId}{x:Operand}{i off s:Nat}{ag:Bool}{xs:List AV}{y:AV}(ho:o.op= .field t x i)(hx:bT sl x= .agg false xs)(hf:dw P t i=some (off,s,ag))(hp:nL off s ag xs=some y):dy P sl o y:=eU λw0 M0 F tb g a w hw h=>by
 have h1:=h x (by simp[ho,Op.operands]);rw[hx]at h1;generalize hv:a.eval x=v at h1;cases h1 with
 |agg hs hone=>
  rename_i vs;have hlen:=hs.length;unfold dw at hf;split at hf
  .rename_i fs hU;split at hf
   .rename_i f KQ;split at hf
    .rename_i s' a' hs' KO;injection hf with hf;obtain⟨rfl,rfl,rfl⟩:=U hf;unfold nL at hp;cases a' with
     |true=>
      simp only[cr]at hp;split at hp
      .rename_i hle;injection hp with hp;subst hp;refine⟨.agg ((vs.drop f.offset).take s').toArray,?_,.agg ((hs.drop _).take _) λu hu=>hone u (fq (oa hu))⟩;have hrun:=wN (P:=P) (t:=f.type) (a:=true) hs' KO (vs:=vs) (off:=f.offset) (u:= .agg ((vs.drop f.offset).take s').toArray) H w;simp[execOp,ho,hv,Instr.field,run_underlying hU,KQ,asAgg,hrun]
      grind
     |false=>
      simp only[dZ,dc]at hp;split at hp
      .obtain⟨u,hu,hr⟩:=hs.get hp;refine⟨u,?_,hr⟩;have hrun:=wN (P:=P) (t:=f.type) (a:=false) hs' KO (vs:=vs) (off:=f.offset) (u:=u) (by grind) w;simp[execOp,ho,hv,Instr.field,run_underlying hU,KQ,asAgg,hrun]
      grind
    grind
   grind
  grind
theorem afk{x:Operand}{id off:Nat}(ho:o.op= .nilCheck x)(hx:bT sl x= .obj id off):dy P sl o (.obj id off):=eU λw0 M0 F tb g a w hw h=>by
 have h1:=h x (by simp[ho,Op.operands]);rw[hx]at h1;generalize hv:a.eval x=v at h1;cases h1 with
 |obj e=>exact⟨_,by simp[execOp,ho,hv],.obj e⟩
theorem afl{x:Operand}{t:TypeId}{y:AV}(ho:o.op= .nilCheck x)(hx:bT sl x= .o_ t y):dy P sl o (.o_ t y):=eU λw0 M0 F tb g a w hw h=>by
 have h1:=h x (by simp[ho,Op.operands]);rw[hx]at h1;generalize hv:a.eval x=v at h1;cases h1 with
 |o_ e=>exact⟨_,by simp[execOp,ho,hv],.o_ e⟩
def LI{t:TypeId}(h:(aO P t).isSome=true):∃e,P.underlying t=some (.slice e):=by
 grind [aO]
def Ql{g:G}{v:Value}{x:AV}{b:Bool}(h:bJ g v x)(e:xm x=some b):∃a n c,v= .slice a n c/\a.isNone=b:=by
 have ne:∀{v:Value} {M:Mem} {y:PC} {ys:List PC},jc M v (.sl (y::ys))->∃a n c,v= .slice a n c/\a.isNone=false:=λh=>by
  cases h with
  |sl _ _ _ _ _ _ _ _=>simp
 unfold xm at e;split at e
 .injection e with e;subst e;cases h with|p h=>cases h;simp
 .injection e with e;subst e;cases h with|p h=>grind
 .injection e with e;subst e;cases h with|own _ h=>grind
 .injection e with e;subst e;cases h with|full h=>grind
 .injection e with e;subst e;cases h with|nn _=>simp
 .injection e with e;subst e;cases h with|view _ h1 _ h3 _=>cases h3 with
   |real _ _ ha _=>grind
   |void h0 _=>omega
 .injection e with e;subst e;cases h with|view _ h1 _ h3 h4=>cases h3 with
   |real _ _ ha _=>grind
   |void h0 _=>grind
 grind
def LJ{g:G}{v:Value}{x:AV}{b:Bool}(h:bJ g v x)(e:vv x=some b):∃a,v= .pointer a/\a.isNone=b:=by
 unfold vv at e;split at e<;>first|(injection e with e;subst e)|cases e
 .cases h with|p h=>cases h;simp
 .cases h with|p h=>cases h;simp
 .cases h;simp
theorem ZV{op:BinOp}{t t':TypeId}{x y:Operand}{b:Bool}{k:AV->Prop}(ho:o.op= .binOp op t x y t')(hy:bT sl y= .p .nil)(hx:xm (bT sl x)=some b)(ht:(aO P t).isSome=true)(hk:vw k op (some b)):∃r,k r/\dy P sl o r:=by
 obtain⟨e,he⟩:=LI ht;have run:∀(r:Bool),(∀(a:Option Addr) (n c:Nat) (w:World),a.isNone=b->(binOp op t (.slice a n c) (.slice none 0 0)).run P w= .ok (.bool r) w)->dy P sl o (.p (.bool r)):=λr hr=>
  eU λw0 M0 F tb g a w hw h=>by
   have h1:=h x (by simp[ho,Op.operands]);have h2:=h y (by simp[ho,Op.operands]);rw[hy]at h2;obtain⟨ad,n,c,e1,e2⟩:=Ql h1 hx;have h2:=bO h2;generalize hv:a.eval y=v at h2;cases h2;have:=hr ad n c w e2;refine⟨.bool r,?_,.p (.sc _ rfl)⟩;simp only[execOp,ho,e1,hv,eqGuard,Sem.run_bind];simp_all
 rcases hk with⟨rfl,hk⟩|⟨rfl,hk⟩
 all_goals grind [Lib.run_eql_slice_nil,run_neq_slice_nil_any]
theorem Vf{op:BinOp}{t t':TypeId}{x y:Operand}{b:Bool}{k:AV->Prop}(ho:o.op= .binOp op t x y t')(hy:bT sl y= .p (.sc (.pointer none)))(hx:vv (bT sl x)=some b)(ht:uD P t=true)(hk:vw k op (some b)):∃r,k r/\dy P sl o r:=by
 have he:P.underlying t=some (.pointer (P.pointee t)):=by
  grind [uD,Program.pointee]
 have run:∀(r:Bool),(∀(a:Option Addr) (w:World),a.isNone=b->(binOp op t (.pointer a) (.pointer none)).run P w= .ok (.bool r) w)->dy P sl o (.p (.bool r)):=λr hr=>
  eU λw0 M0 F tb g a w hw h=>by
   have h1:=h x (by simp[ho,Op.operands]);have h2:=h y (by simp[ho,Op.operands]);rw[hy]at h2;obtain⟨ad,e1,e2⟩:=LJ h1 hx;have h2:=bU h2;have:=hr ad w e2;refine⟨.bool r,?_,.p (.sc _ rfl)⟩;simp only[execOp,ho,e1,h2,eqGuard,Sem.run_bind];simp_all
 rcases hk with⟨rfl,hk⟩|⟨rfl,hk⟩
 all_goals grind [run_eql_pointer_nil,run_neq_pointer_nil]
theorem akH{op:BinOp}{t t':TypeId}{x y:Operand}{r:Bool}{xs ys:List PC}{k:AV->Prop}(ho:o.op= .binOp op t x y t')(hy:(bT sl y).nm= .p (.agg false ys))(hx:(bT sl x).nm= .p (.agg false xs))(h1:uB P t=true)(he:eqL P xs ys (DJ P t)=some r)(hk:vw k op (some r)):∃r,k r/\dy P sl o r:=by
 have hg:P.eqGuardType P.depth t=false:=by grind [uB]
 have run:∀(b:Bool),(∀(us vs:Array Value) (w:World),(Op.equal t (.agg us) (.agg vs)).run P w= .ok r w->(binOp op t (.agg us) (.agg vs)).run P w= .ok (.bool b) w)->dy P sl o (.p (.bool b)):=λb hb=>
  bY λw0 M0 F tb g a w hw h=>by
   have g1:=h x (by simp[ho,Op.operands]);rw[hx]at g1;have g2:=h y (by simp[ho,Op.operands]);rw[hy]at g2;have g1:=bO g1;have g2:=bO g2;refine⟨.bool b,?_,.p (.sc _ rfl)⟩;generalize hu:a.eval x=u at g1;generalize hv:a.eval y=v at g2;cases g1 with
   |agg us _=>
    cases g2 with
    |agg vs _=>
     have key:=Ys us vs he h1 w;have hb':=hb _ _ w key;simp only[execOp,ho,hu,hv,Sem.run_bind,run_eqGuard_agg w op t x y _ _ hg,Result.andThen_ok,hb'];simp
 rcases hk with⟨rfl,hk⟩|⟨rfl,hk⟩
 .exact⟨_,hk,run _ λus vs w hr=>by simp[binOp,hr]⟩
 .exact⟨_,hk,run _ λus vs w hr=>by simp[binOp,hr]⟩
theorem xo{k:AV->Prop}(h:XE P o.op (bT sl) k):∃x,k x/\dy P sl o x:=by
 unfold XE at h;split at h
 .grind [vz,ZW]
 .rename_i t n ps ho;unfold DX at h;split at h
  .rename_i e sz dQ ht;obtain⟨h1,h2,h3,h4,h⟩:=h;split at h
   .rename_i ys hys;obtain⟨h5,h⟩:=h;have h6:=gX.1 h5;have io:∀(l:List (Nat×Operand)) (k:Nat),bW k (l.map λp=>(p.1,bT sl p.2))=bW k l:=by
     intro l;induction l with
     |nil=>intro k;rfl
     |cons p l ih=>grind [bW]
    grind [IV,gi,Function.comp_def,cE]
   grind
  grind
 .rename_i x i ho;unfold IU at h;split at h
  .grind [afj]
  .exact wD (P:=P) (o:=o) (by grind [opW,Pa])
 .rename_i t x i ho;unfold zg at h;split at h
  .grind [Ve]
  .exact wD (P:=P) (o:=o) (by grind [opW,Pa])
 .rename_i x ho;unfold LH at h;split at h
  .grind [afk]
  .grind [afl]
  .exact wD (P:=P) (o:=o) (by grind [opW,Pa])
 .rename_i op t x y t' ho;unfold zf at h;split at h
  .rename_i hy;obtain⟨h1,h⟩:=h;cases hn:xm (bT sl x)with
   |none=>rw[hn]at h;exact h.elim
   |some b=>grind [ZV]
  .rename_i hy;obtain⟨h1,h⟩:=h;cases hn:vv (bT sl x)with
   |none=>rw[hn]at h;exact h.elim
   |some b=>grind [Vf]
  .unfold LG at h;split at h
   .rename_i ys xs hy hx;obtain⟨h1,h⟩:=h;cases he:eqL P xs ys (DJ P t)with
    |none=>rw[he]at h;exact h.elim
    |some r=>grind [akH]
   .exact wD (P:=P) (o:=o) (by grind [opW,Pa])
 .exact wD (P:=P) (o:=o) h
end
section
variable{P:Program}{sl:Nat->AV}{o:Oper}{st:AS}
def jE{t:TypeId}{s:Nat}(h:aO P t=some s):∃el,P.underlying t=some (.slice el)/\aW P el=some s:=by
 grind [aO]
theorem afJ{c:Call}{x:Operand}{t:TypeId}{id f n s:Nat}{m:Option Nat}(ho:o.op= .call c)(hc:c.callee= .builtin .len)(ha:c.args=#[x])(hts:c.argTypes=#[t])(hx:bT sl x= .view id f n s m)(ht:(aO P t).isSome=true):dy P sl o (.p (.int n)):=eU λw0 M0 F tb g a w hw h=>by
 have e1:=h x (by grind [Op.operands,Call.operands]);rw[hx]at e1;obtain⟨el,hU⟩:=LI ht;generalize hv:a.eval x=v at e1;cases e1 with
 |view e h3 h4 h5 hm=>exact⟨.int .i64 n,by simp[execOp,ho,resolve,hc,ha,hts,invoke,builtin,hv,Builtin.len_,run_underlying hU,goInt],.p (.sc _ rfl)⟩
theorem afK{c:Call}{x:Operand}{t:TypeId}{id f n s m:Nat}(ho:o.op= .call c)(hc:c.callee= .builtin .cap)(ha:c.args=#[x])(hts:c.argTypes=#[t])(hx:bT sl x= .view id f n s (some m))(ht:(aO P t).isSome=true):dy P sl o (.p (.int ((m-f:Nat):Int))):=eU λw0 M0 F tb g a w hw h=>by
 have e1:=h x (by grind [Op.operands,Call.operands]);rw[hx]at e1;obtain⟨el,hU⟩:=LI ht;generalize hv:a.eval x=v at e1;cases e1 with
 |view e h3 h4 h5 hm=>obtain rfl:=hm _ rfl;exact⟨.int .i64 (((_:Nat)-f:Nat):Int),by simp[execOp,ho,resolve,hc,ha,hts,invoke,builtin,hv,Builtin.cap_,run_underlying hU,goInt],.p (.sc _ rfl)⟩
theorem akS{t:TypeId}{x i:Operand}{id f n s:Nat}{m:Option Nat}{kd:IntKind}{j:Int}(ho:o.op= .indexAddr t x i)(hx:bT sl x= .view id f n s m)(hi:(bT sl i).nm= .p (.sc (.int kd j)))(h0:0<=j)(hn:j<(n:Int))(hsz:aO P t=some s):dy P sl o (.obj id ((f+j.toNat)*s)):=eU λw0 M0 F tb g a w hw h=>by
 have h1:=h x (by simp[ho,Op.operands]);rw[hx]at h1;have h2:=cu (h i (by simp[ho,Op.operands]));rw[hi]at h2;have HP:=bO h2;generalize hv:a.eval x=v at h1;generalize zJ:a.eval i=v2 at HP;cases HP;obtain⟨el,hU,hs⟩:=jE hsz;cases h1 with
 |view e h3 h4 h5 hm=>
  rename_i b cc ad;cases h5 with
  |void h0 _=>omega
  |real off iQ had h5=>
  subst had;obtain rfl:=h5 (.inl O);refine⟨.pointer (some ⟨b,(f+j.toNat)*s,none⟩),?_,.obj e⟩;simp[execOp,ho,hv,zJ,Instr.indexAt,asIntOf,run_underlying hU,h0,hn,run_sizeOf hs,Addr.add_lit,oz]
def acB{t:TypeId}{x:Operand}{lo hi:Option Operand}{id f n s l h:Nat}{m:Option Nat}(ho:o.op= .slice t x lo hi none)(hx:bT sl x= .view id f n s m)(hsz:aO P t=some s)(hlo:match lo.map (λy=>(bT sl y).nm)with|none=>l=0|some (.p (.sc (.int _ i)))=>i=(l:Int)|_=>False)(hhi:match hi.map (λy=>(bT sl y).nm)with|none=>h=n|some (.p (.sc (.int _ i)))=>i=(h:Int)|_=>False)(h1:l<=h)(h2:h<=n\/∃k,m=some k/\f+h<=k):dy P sl o (.view id (f+l) (h-l) s m):=eU λw0 M0 F tb g a w hw hr=>by
 have h3:=hr x (by simp[ho,Op.operands]);rw[hx]at h3;generalize hv:a.eval x=v at h3;have b1:=oS (λy e=>cu (hr y (by grind [Op.operands]))) hlo;have b2:=oS (λy e=>cu (hr y (by grind [Op.operands]))) hhi;obtain⟨el,hU,hs⟩:=jE hsz;cases h3 with
 |view e h3 h4 h5 hm=>
  rename_i b cc ad;have h2:f+h<=cc:=by
   grind
  cases h5 with
  |void h0 AF=>
   subst h0;have hl0:l=0:=O;have hh0:h=0:=O;have hf0:f=0:=O;subst hl0;subst hh0;subst hf0;have hb:=qq (P:=P) (isS:=true) (n:=n) (cap:=0) b1 b2 h1 O w;refine⟨.slice ad 0 0,?_,?_⟩
   .simp[execOp,ho,hv,Instr.sliceAt,Instr.slice,run_underlying hU,hb,run_sizeOf hs]
   .have:=bJ.view (g:=g) (id:=id) (b:=b) (c:=0) (o:=0) (n:=0) (s:=s) (a:=ad) e O h4 (.void rfl AF) hm;omega
  |real off iQ had h5=>
  subst had;have hb:=qq (P:=P) (isS:=true) (n:=n) (cap:=cc-f) b1 b2 h1 O w;refine⟨.slice (some ⟨b,off+(if cc-f=l then 0 else l*s),none⟩) (h-l) (cc-f-l),?_,?_⟩
  .have hoff:(if cc-f=l then(some (⟨b,off,none⟩:Addr))else some ⟨b,off+l*s,none⟩)=some ⟨b,off+(if cc-f=l then 0 else l*s),none⟩:=by grind
   rw[<-hoff];simp[execOp,ho,hv,Instr.sliceAt,Instr.slice,run_underlying hU,hb,run_sizeOf hs,Addr.add_lit]
  .have e2:cc-f-l=cc-(f+l):=O;rw[e2];refine .view e O h4 (.real _ iQ rfl λhh=>?_) hm
   grind
def zm{w0:World}{M0:Mem}{F:Nat->Prop}{tb:Tb}{g:G}{w:World}(hw:bf w0 M0 F tb g w){id b c:Nat}{ob:Ob}(hl:lk id tb.bx=some ob)(he:g.ob id=some (b,c))(lo k:Nat)(hk:lo+k<=ob.xs.length):∃cs,cs.length=k/\(loadCells ⟨b,lo,none⟩ k).run P w= .ok cs.toArray w/\aV g cs ((ob.xs.drop lo).take k)/\(∀v∈cs,v.oneCell'=true)/\(loadCells ⟨b,lo,none⟩ k).run P w.drew= .ok cs.toArray w.drew:=by
 have CD:=hw.boxes id ob hl;by_cases Qa:k=0
 .subst Qa;exact⟨[],rfl,by simp[loadCells,loadCellsFrom],U aV.nil,H,by simp[loadCells,loadCellsFrom]⟩
 have iQ:0<c:=CD.pos he λhz=>by grind
 obtain⟨cur,f2,f3,⟨tt,fz,f4,fo⟩,f5,f6,f7,f8,f9⟩:=CD.real he iQ;generalize b=b' at*;have cell:∀j u,cur[j]?=some u->w.cell? ⟨b',j,none⟩=some u:=λj u e=>by grind [World.cell?]
 have hls:((cur.toList.drop lo).take k).length=k:=by grind
 have hrun:=run_loadCells_list (P:=P) w ⟨b',lo,none⟩ ((cur.toList.drop lo).take k) (λj u e=>by
  grind [Addr.add_lit])
 rw[hls]at hrun;have N4:=run_loadCells_list (P:=P) w.drew ⟨b',lo,none⟩ ((cur.toList.drop lo).take k) (λj u e=>by
  rw[Addr.add_lit];rw[u_]at e;simp_all)
 rw[hls]at N4;have e3:((cur.toList.take ob.xs.length).drop lo).take k=(cur.toList.drop lo).take k:=by
  grind [List.drop_take]
 refine⟨_,hls,hrun,?_,λu hu=>f9 u ?_,N4⟩
 .have:=(f8.drop lo).take k
  grind
 grind
def QX{w0:World}{M0:Mem}{F:Nat->Prop}{tb:Tb}{g:G}{w:World}(hw:bf w0 M0 F tb g w){id b c:Nat}{ob:Ob}(hl:lk id tb.bx=some ob)(he:g.ob id=some (b,c))(iQ:0<c)(lo:Nat){cs:List Value}{zs:List AV}(hz:aV g cs zs)(hone:∀v∈cs,v.oneCell'=true)(hk:lo<=ob.xs.length)(hc:lo+zs.length<=c*ob.sz):∃w',(storeCells ⟨b,lo,none⟩ cs).run P w= .ok () w'/\bf w0 M0 F (tb.aY id {ob with xs:=ob.xs.take lo++zs++ob.xs.drop (lo+zs.length)}) g w':=by
 have f1':=he;obtain⟨cur,f2,f3,⟨tt,fz,f4,fo⟩,f5,f6,f7,f8,f9⟩:=(hw.boxes id ob hl).real he iQ;generalize b=b' at*;have hlz:=hz.length;have hst:=iK P b' lo tt fz cs 0 cur w f4 fo.fz O hone;simp only[qQ]at hst;refine⟨_,hst,?_⟩;have Gu:((cur.toList.take lo++cs++cur.toList.drop (lo+cs.length)).toArray).toList.take (ob.xs.take lo++zs++ob.xs.drop (lo+zs.length)).length=(cur.toList.take ob.xs.length).take lo++cs++(cur.toList.take ob.xs.length).drop (lo+zs.length):=by
  grind [List.drop_take]
 refine hw.aY (o':={ob with xs:=ob.xs.take lo++zs++ob.xs.drop (lo+zs.length)}) hl f1' iQ f4 (by grind) rfl rfl (by simp;omega) ?_ ?_
 .show aV g (List.take (ob.xs.take lo++zs++ob.xs.drop (lo+zs.length)).length _) _;rw[Gu];exact((f8.take lo).append hz).append (f8.drop _)
 grind
end
variable{c:Call}{zs:List AV}{z:List PC}{M0:Mem}{b f id k n s:Nat}{F:Nat->Prop}{ob:Ob}{x y:Operand}{m:Option Nat}{tb:Tb}{e t u:TypeId}{w w0:World}
def jD(n:Nat)(z:List PC):List PC:=(List.replicate n z).flatten
theorem oC(n:Nat)(z:List PC):(jD n z).length=n*z.length:=by simp[jD]
@[simp]def Vr(n:Nat)(x:PC):jD n [x]=List.replicate n x:=by
 induction n with
 |zero=>rfl
 |succ n ih=>simp only[jD,uX,jz]at ih⊢;rw[ih];rfl
def tZ{z:List Value}:∀(n:Nat) (cs:Array Value),cs.toList=(List.replicate n z).flatten->∀(M:Mem),(∀v∈z,v.oneCell'=true)->dh M cs.toList (jD n (z.map c1))/\∀v∈cs.toList,v.oneCell'=true:=by
 intro n cs h M hz;rw[h];constructor
 .unfold jD;clear h
  induction n with
  |zero=>exact .nil
  |succ n ih=>simp only[uX,jz];exact(wS M z hz).append ih
 simp_all
section
variable{P:Program}{sl:Nat->AV}{o:Oper}{st:AS}
theorem zC(z:Array Value)(hz:0<z.size):∀(n:Nat),(madeCells z (n*z.size)).toList=(List.replicate n z.toList).flatten
 |0=>by simp[madeCells]
 |n+1=>by
  have ih:=zC z hz n;have e:(madeCells z ((n+1)*z.size)).toList=(madeCells z (n*z.size)).toList++z.toList:=by
   simp only[madeCells,Array.toList_map,Array.toList_range];rw[Nat.succ_mul,List.range_add,jB,jF];congr 1;apply List.ext_getElem
   .simp
   .intro i h1 h2;have hi:i<z.size:=O;simp only[List.getElem_map,List.getElem_range,Function.comp_apply]
    grind [Nat.add_mul_mod_self_right,Nat.mod_eq_of_lt]
  grind [List.replicate_succ']
def xu(h:bX P e=some z){i:TypeInfo}(hi:P.info? e=some i):∃zv,i.zero=some zv/\z=zv.cells.toList.map c1/\∀v∈zv.cells.toList,v.oneCell'=true:=by
 grind [Oc]
theorem akO{dQ c:Nat}{kl kc:IntKind}(ho:o.op= .makeSlice t x y)(ht:dF P t=some (e,s,dQ))(hs:0<s)(hz:bX P e=some z)(hx:(bT st.sl x).nm= .p (.sc (.int kl n)))(hy:(bT st.sl y).nm= .p (.sc (.int kc c)))(hn:n<=c)(hb:dQ*c<=281474976710656)(hc:c<=maxLen):eV P st o (.view st.tb.nx 0 n s (some c)) (st.tb.bD ⟨e,s,(jD c z).map .p⟩):=cg λw0 M0 F g a w hw h=>by
 have h1:=cu (h x (by simp[ho,Op.operands]));rw[hx]at h1;have h2:=cu (h y (by simp[ho,Op.operands]));rw[hy]at h2;have h1:=bU h1;have h2:=bU h2;obtain⟨hU,i,zv,hi,Kf,r6,Gt,hzs⟩:=iq ht;obtain⟨zv',r7,rfl,hone⟩:=xu hz hi;rw[Kf]at r7;injection r7 with r7;subst r7;have hb':(i.bytes:Int)*(c:Int)<=281474976710656:=by grind
 have Yb:(c:Int)<=9223372036854775807:=by grind [maxLen]
 have hrun:=run_make (P:=P) w t e i zv hU hi Kf kl kc n c (Int.natCast_nonneg n) (Int.ofNat_le.2 hn) hb' Yb;simp only[qS]at hrun;have zY:=zC zv.cells O c;have hsz:zv.cells.size=i.size:=O;rw[hsz]at zY;have hB:Below w.heap.size w (w.alloc (.cells (madeCells zv.cells (c*i.size)) e)):=(Below.refl _ _).alloc (aX _) _;have hr:=tZ c (madeCells zv.cells (c*i.size)) zY g.M hone;have hlen:((jD c (zv.cells.toList.map c1)).map AV.p).length=(madeCells zv.cells (c*i.size)).size:=by
  grind [oC,size_madeCells]
 have zV:(madeCells zv.cells (c*i.size)).toList.take ((jD c (zv.cells.toList.map c1)).map AV.p).length=(madeCells zv.cells (c*i.size)).toList:=gv (by grind);have key:=hw.Ec (o:=⟨e,s,(jD c (zv.cells.toList.map c1)).map .p⟩) (cur:=madeCells zv.cells (c*i.size)) (c:=c) hB (heap_alloc_new w _) (by rw[size_madeCells,r6]) hc (by grind) (by grind [lY]) hr.2;refine⟨.slice (some ⟨w.heap.size,0,none⟩) n c,_,_,?_,hw.nP _ _,key,?_⟩
 .simp only[execOp,ho,h1,h2,Sem.run_bind,hrun];rfl
 .have:=bJ.view (g:=g.eN st.tb.nx w.heap.size c) (id:=st.tb.nx) (b:=w.heap.size) (c:=c) (o:=0) (n:=n) (s:=s) (a:=some ⟨w.heap.size,0,none⟩) (by simp[G.eN]) O hc (by
   rcases oq c with h0|h0
   .exact .void h0 (.inr ⟨_,rfl⟩)
   .exact .real 0 h0 rfl (λ_=>H)) (m:=some c) (λk hk=>by grind)
  omega
def EX{g:G}(hw:bf w0 M0 F tb g w){c off:Nat}(hl:lk id tb.bx=some ob)(he:g.ob id=some (b,c))(hsz:ob.sz=s)(hfn:f+n<=c)(hoff:f<c\/f=0->off=f*s){cs:List Value}(hz:aV g cs zs)(hone:∀v∈cs,v.oneCell'=true)(hk:k<=n)(hlen:zs.length=k*s)(hx:f*s<=ob.xs.length):∃w',(storeCells ⟨b,off,none⟩ cs).run P w= .ok () w'/\bf w0 M0 F (tb.aY id {ob with xs:=ob.xs.take (f*s)++zs++ob.xs.drop (f*s+zs.length)}) g w':=by
 have hlz:=hz.length;by_cases Qa:k*s=0
 .have h0:zs=[]:=o5 O;have h1:cs=[]:=o5 O;subst h0;subst h1;refine⟨w,by simp[storeCells],hw.sub (λi p e=>?_) (λ_ _ e=>e) (aX _)⟩;simp only[Tb.aY,bP]at e;split at e
  .rename_i hi;subst hi;injection e with e;subst e;simp only[gL,fQ,qQ,eO];omega
  grind [cQ]
 .have hkp:0<k:=qZ λh=>Qa (by grind);obtain rfl:=hoff (.inl O);refine QX hw hl he O (f*s) hz hone hx ?_;rw[hlen,hsz,<-oz];exact yc _ O
def oF{g:G}(hw:bf w0 M0 F tb g w){c:Nat}{a:Option Addr}(hl:lk id tb.bx=some ob)(he:g.ob id=some (b,c))(hsz:ob.sz=s)(hfn:f+n<=c)(hv:BJ a b c f s){cs:List Value}(hz:aV g cs zs)(hone:∀v∈cs,v.oneCell'=true)(hk:k<=n)(hlen:zs.length=k*s)(hx:f*s<=ob.xs.length):∃w',(∀ad,a=some ad->(storeCells ad cs).run P w= .ok () w')/\(a=none->w'=w)/\bf w0 M0 F (tb.aY id {ob with xs:=ob.xs.take (f*s)++zs++ob.xs.drop (f*s+zs.length)}) g w':=by
 cases hv with
 |real off iQ ha hoff=>
  subst ha;obtain⟨w',h1,h2⟩:=EX (P:=P) hw hl he hsz hfn hoff hz hone hk hlen hx
  grind
 |void h0 ha=>
  obtain⟨w',h1,h2⟩:=EX (P:=P) (off:=f*s) hw hl he hsz hfn (λ_=>rfl) hz hone hk hlen hx;have Qa:k=0:=O;have hc0:cs=[]:=o5 (by rw[hz.length,hlen,Qa,sQ])
  grind [storeCells,Sem.run_pure]
def bH(k:Nat)(xs:List AV):List AV:=xs++List.replicate (k-xs.length) .any
def fj{xs:List AV}(h:k<=xs.length):bH k xs=xs:=by
 grind [bH,Nat.sub_eq_zero_of_le]
theorem jW{xs:List AV}:(bH k xs).length=max xs.length k:=by
 grind [bH]
def bf.alM{g:G}(hw:bf w0 M0 F tb g w){c:Nat}(hl:lk id tb.bx=some ob)(he:g.ob id=some (b,c))(hk:k<=c*ob.sz):bf w0 M0 F (tb.aY id {ob with xs:=bH k ob.xs}) g w:=by
 rcases oq c with h0|h0
 .subst h0;rw[fj O];refine hw.sub (λi p e=>?_) (λ_ _ e=>e) (aX _);simp only[Tb.aY,bP]at e;by_cases hi:i=id
  .rw[ai hi]at e;simp_all
  grind [cQ]
 .obtain⟨cur,f2,f3,⟨tt,fz,f4,fo⟩,f5,f6,f7,f8,f9⟩:=(hw.boxes id ob hl).real he h0;have hlen:(bH k ob.xs).length<=cur.size:=by rw[jW];omega
  have apC:∀(l:List Value),aV g l (List.replicate l.length .any):=λl=>by
   induction l with
   |nil=>exact .nil
   |cons v l ih=>exact .cons (.any v) ih
  have CA:aV g (cur.toList.take (bH k ob.xs).length) (bH k ob.xs):=by
   have e1:cur.toList.take (bH k ob.xs).length=cur.toList.take ob.xs.length++(cur.toList.drop ob.xs.length).take (k-ob.xs.length):=by
    grind [bH]
   rw[e1];refine f8.append ?_;have:=apC ((cur.toList.drop ob.xs.length).take (k-ob.xs.length))
   grind
  have key:=hw.aY (o':={ob with xs:=bH k ob.xs}) (cur':=cur) hl he h0 f4 rfl rfl rfl hlen CA f9;have:w.setRow b cur=w:=by
   obtain⟨heap,tape,drawn,os,output⟩:=w
   grind [World.setRow,World.mk.injEq]
  grind
def adN{x:AV}{a_:Tb}(hy:y∈o.op.operands)(hx:bT st.sl y= .view id f n s m)(hl:lk id st.tb.bx=some ob)(hsz:ob.sz=s)(h:eV P ⟨st.sl,st.tb.aY id {ob with xs:=bH (f*s) ob.xs}⟩ o x a_):eV P st o x a_:=by
 intro w0 M0 F g a w hw hop K Q hK;have h1:=kN (a:=a) y (λt e=>hop t (e▸hy));rw[hx]at h1;generalize a.eval y=v at h1;cases h1 with
 |view e h3 h4 h5 hm=>
  exact h w0 M0 F g a w (hw.alM hl e (by rw[hsz];exact yc _ O)) hop K Q hK
def bA:PC->List AV
 | .agg false xs=>xs.map .p
 |x=>[.p x]
theorem rH{g:G}:∀{us:List Value} {ys:List PC},dh g.M us ys->(∀y∈ys,cE y=true)->aV g (cellsOf us) (ys.flatMap bA)
 |_,_,.nil,_=> .nil
 |v::us,y::ys,.cons h hs,hn=>by
  simp only[cellsOf,cU];refine aV.append ?_ (rH hs λz hz=>hn z (by grind));have hy:=hn y H;by_cases hp:y.plain=true
  .obtain⟨e1,e2⟩:=jZ h hp;rw[e1];have:bA y=[.p y]:=by cases y<;>simp_all [bA,PC.plain]
   rw[this];exact .cons (.p h) .nil
  .cases y with
   |agg b xs=>
    cases b with
    |true=>simp[cE]at hy
    |false=>
     cases h with
     |agg hr h1=>grind [bA,Value.cells,lY]
   |_=>simp[PC.plain]at hp
def QY(ho:o.op= .call c)(hc:c.callee= .builtin .copy)(ha:c.args=#[x,y])(ht:c.argTypes=#[t,u])(a:Act)(w:World):(execOp a.eval o).run P w=((Builtin.copy_ #[t,u] o.type #[a.eval x,a.eval y]).run P w).andThen λv w=> .ok (.value v) w:=by
 simp only[execOp,ho,resolve,hc,ha,ht,Sem.run_bind,Sem.run_pure,Result.andThen_ok,invoke,builtin,FH,dB,qN]
def EY(ho:o.op= .call c)(hc:c.callee= .builtin .copy)(ha:c.args=#[x,y])(hts:c.argTypes=#[t,u])(hx:bT st.sl x= .view id f n s m)(hl:lk id st.tb.bx=some ob)(hsz:ob.sz=s)(hel:aO P t=some s)(hf:f*s<=ob.xs.length)(hk:k<=n)(hlen:zs.length=k*s)(hsrc:∀(w0:World) (M0:Mem) (F:Nat->Prop) (g:G) (v:Value) (w:World),bf w0 M0 F st.tb g w->bJ g v (bT st.sl y)->∃sLen cs,(Builtin.lenOf v).run P w= .ok sLen w/\Nat.min sLen n=k/\(Builtin.firstCells s k v).run P w= .ok cs.toArray w/\aV g cs zs/\∀u∈cs,u.oneCell'=true):eV P st o (.p (.int k)) (st.tb.aY id {ob with xs:=ob.xs.take (f*s)++zs++ob.xs.drop (f*s+zs.length)}):=cg λw0 M0 F g a w hw h=>by
 have h1:=h x (by grind [Op.operands,Call.operands]);rw[hx]at h1;have h2:=h y (by grind [Op.operands,Call.operands]);obtain⟨el,hU,hs⟩:=jE hel;obtain⟨sLen,cs,q1,q2,q3,q4,q5⟩:=hsrc w0 M0 F g _ w hw h2;generalize hv:a.eval x=v at h1;cases h1 with
 |view e h3 h4 h5 hm=>
  rename_i b cc ad;obtain⟨w',r1,r0,r2⟩:=oF (P:=P) hw hl e hsz h3 h5 q4 q5 hk hlen hf;refine⟨.int .i64 k,w',g,?_,G.le_refl g,r2,.p (.sc _ rfl)⟩;rw[QY ho hc ha hts,hv];have:(Builtin.copy_ #[t,u] o.type #[.slice ad n (cc-f),a.eval y]).run P w= .ok (goInt k) w':=by
   cases ad with
   |none=>obtain rfl:=r0 rfl;simp[Builtin.copy_,run_underlying hU,q1,q2,run_sizeOf hs,q3]
   |some ad=>simp[Builtin.copy_,run_underlying hU,q1,q2,run_sizeOf hs,q3,r1 ad rfl]
  rw[this];rfl
def aa7{id' f' n':Nat}{m':Option Nat}{lG:Ob}(ho:o.op= .call c)(hc:c.callee= .builtin .copy)(ha:c.args=#[x,y])(hts:c.argTypes=#[t,u])(hx:bT st.sl x= .view id f n s m)(hl:lk id st.tb.bx=some ob)(hsz:ob.sz=s)(hel:aO P t=some s)(hf:f*s<=ob.xs.length)(hy:bT st.sl y= .view id' f' n' s m')(hl':lk id' st.tb.bx=some lG)(hk:Nat.min n' n=k)(hf':(f'+k)*s<=lG.xs.length):eV P st o (.p (.int k)) (st.tb.aY id {ob with xs:=ob.xs.take (f*s)++(lG.xs.drop (f'*s)).take (k*s)++ob.xs.drop (f*s+k*s)}):=by
 have hzl:((lG.xs.drop (f'*s)).take (k*s)).length=k*s:=by
  grind
 have:=EY (P:=P) (st:=st) (o:=o) (k:=k) (zs:=(lG.xs.drop (f'*s)).take (k*s)) ho hc ha hts hx hl hsz hel hf (by grind) hzl ?_
 .grind
 .intro w0 M0 F g v w hw hv;rw[hy]at hv;cases hv with
  |view e h3 h4 h5 hm=>
   rename_i b cc ad;by_cases Qa:k*s=0
   .refine⟨n',[],by simp[Builtin.lenOf],hk,?_,?_,H⟩
    .cases ad<;>simp only[Builtin.firstCells,Qa]<;>rfl
    .rw[o5 (l:=(lG.xs.drop (f'*s)).take (k*s)) O];exact .nil
   .have hkp:0<k:=qZ λh=>Qa (by grind);have hkn:k<=n':=by grind
    cases h5 with
    |void h0 _=>omega
    |real off iQ had h5=>
    subst had;obtain rfl:=h5 (.inl O);obtain⟨cs,r1,r2,r3,r4,_⟩:=zm (P:=P) hw hl' e (f'*s) (k*s) (by grind);exact⟨n',cs,by simp[Builtin.lenOf],hk,by grind [Builtin.firstCells],r3,r4⟩
def aa8{ys:List PC}(ho:o.op= .call c)(hc:c.callee= .builtin .copy)(ha:c.args=#[x,y])(hts:c.argTypes=#[t,u])(hx:bT st.sl x= .view id f n s m)(hl:lk id st.tb.bx=some ob)(hsz:ob.sz=s)(hel:aO P t=some s)(hf:f*s<=ob.xs.length)(hy:(bT st.sl y).nm= .p (.sl ys))(hk:Nat.min ys.length n=k)(hw':∀y∈ys,y.width=s)(hn:∀y∈ys,cE y=true):eV P st o (.p (.int k)) (st.tb.aY id {ob with xs:=ob.xs.take (f*s)++(ys.take k).flatMap bA++ob.xs.drop (f*s+k*s)}):=by
 have ye:k<=ys.length:=by grind
 have ari:∀y∈ys,(bA y).length=s:=λy hy=>by
  rw[<-hw' y hy];cases y with
  |agg b l=>cases b<;>simp[bA,PC.width]
  |_=>rfl
 have hzl:((ys.take k).flatMap bA).length=k*s:=by
  have key:∀(l:List PC),(∀y∈l,(bA y).length=s)->(l.flatMap bA).length=l.length*s:=by
   intro l
   induction l with
   |nil=>simp
   |cons z l ih=>grind
  grind
 have:=EY (P:=P) (st:=st) (o:=o) (k:=k) (zs:=(ys.take k).flatMap bA) ho hc ha hts hx hl hsz hel hf (by grind) hzl ?_
 .grind
 .intro w0 M0 F g v w hw hv;have hv:=cu hv;rw[hy]at hv;obtain⟨ad,cap,us,oO⟩:=rD (bO hv);have pI:=oO.pI;have hlu:=pI.length;have rG:∀u∈us.take k,u.cells.size=s:=λu hu=>ew pI hw' u (oa hu);have kW:=dx (us.take k) rG;rw[lV,eS O]at kW;refine⟨ys.length,cellsOf (us.take k),by rw[oO.hv];simp[Builtin.lenOf],hk,?_,rH (pI.take k) λy hy=>hn y (oa hy),λu hu=>oO.hone u ?_⟩
  .rw[oO.hv];cases ad with
   |none=>
    have h0:=oO.hnil rfl;have h1:=oO.hcap;have:us=[]:=o5 O;subst this;simp[Builtin.firstCells,cellsOf]
   |some b=>
    rcases oO.eM b rfl with⟨e,eM⟩|hc0
    case inr=>
     have h1:=oO.hcap
     grind [ji]
    refine ji kW λj u hj=>?_;rw[e,Addr.add_lit];refine hw.holds _ _ _ (eM j u ?_)
    grind [jM,List.take_append_drop]
  grind [jM,List.take_append_drop]
theorem ru{z:Array Value}(hz:0<z.size)(n:Nat):(Builtin.zeroCells z n).toList=(List.replicate n z.toList).flatten:=zC z hz n
theorem Wz{dQ:Nat}(ho:o.op= .call c)(hc:c.callee= .builtin .clear)(ha:c.args=#[x])(hts:c.argTypes=#[t])(hx:bT st.sl x= .view id f n s m)(hl:lk id st.tb.bx=some ob)(hsz:ob.sz=s)(hel:dF P t=some (e,s,dQ))(hs:0<s)(hz:bX P e=some z)(hf:f*s<=ob.xs.length):eV P st o .any (st.tb.aY id {ob with xs:=ob.xs.take (f*s)++(jD n z).map .p++ob.xs.drop (f*s+n*s)}):=cg λw0 M0 F g a w hw h=>by
 have h1:=h x (by grind [Op.operands,Call.operands]);rw[hx]at h1;obtain⟨hU,i,zv,hi,Kf,r6,Gt,hzs⟩:=iq hel;obtain⟨zv',r7,rfl,hone⟩:=xu hz hi;rw[Kf]at r7;injection r7 with r7;subst r7;have zY:=ru (z:=zv.cells) O n;have hr:=tZ n (Builtin.zeroCells zv.cells n) zY g.M hone;generalize hv:a.eval x=v at h1;cases h1 with
 |view e h3 h4 h5 hm=>
  rename_i b cc ad;have hlen:((jD n (zv.cells.toList.map c1)).map AV.p).length=n*s:=by grind [oC]
  obtain⟨w',r1,r0,r2⟩:=oF (P:=P) hw hl e hsz h3 h5 (lY hr.1) hr.2 (aX n) hlen hf;rw[hlen]at r2;refine⟨.tuple #[],w',g,?_,G.le_refl g,r2,.any _⟩;have hrun:(Builtin.clear_ #[t] o.type #[.slice ad n (cc-f)]).run P w= .ok (.tuple #[]) w':=by
   cases ad with
   |none=>obtain rfl:=r0 rfl;simp[Builtin.clear_,run_underlying hU]
   |some ad=>
   have r1:=r1 ad rfl;cases n with
   |zero=>
    have e0:(Builtin.zeroCells zv.cells 0).toList=[]:=by grind
    rw[e0]at r1;simp only[storeCells,Sem.run_pure]at r1;injection r1 with _ r1;subst r1;simp[Builtin.clear_,run_underlying hU]
   |succ n=>simp[Builtin.clear_,run_underlying hU,zeroValue,typeInfo,hi,Kf,r1]
  simp only[execOp,ho,resolve,hc,ha,hts,Sem.run_bind,Sem.run_pure,Result.andThen_ok,invoke,builtin,FH,dB,qN,hv,hrun]
  try rfl
end
end Go.Av
namespace Go.Av
open Go.RowKit
theorem aV.split{g:G}:∀(xs:List AV) {vs:List Value} {ys:List AV},aV g vs (xs++ys)->∃us ws,vs=us++ws/\aV g us xs/\aV g ws ys
 |[],vs,_,h=>⟨[],vs,rfl,.nil,h⟩
 |x::xs,_,ys,h=>by
  cases h with
  |cons h hs=>
   obtain⟨us,ws,rfl,h1,h2⟩:=aV.split xs hs;exact⟨_::us,ws,rfl,.cons h h1,h2⟩
theorem EW{g:G}:∀{vs:List Value} (xs:List PC),aV g vs (xs.map .p)->dh g.M vs xs
 |_,[],h=>by cases h;exact .nil
 |_,x::xs,h=>by cases h with|cons h hs=>exact .cons (bO h) (EW xs hs)
theorem vt{g:G}:∀(ys:List PC) {cs:List Value},aV g cs (ys.flatMap bA)->(∀u∈cs,u.oneCell'=true)->(∀y∈ys,cE y=true)->∃us,cellsOf us=cs/\dh g.M us ys
 |[],_,h,_,_=>by cases h;exact⟨[],rfl,.nil⟩
 |y::ys,cs,h,h1,hn=>by
  simp only[cU]at h;obtain⟨us,ws,rfl,k1,k2⟩:=aV.split _ h;obtain⟨vs,e,k3⟩:=vt ys k2 (λu hu=>h1 u (by grind)) (λz hz=>hn z (by grind));have one:∀(v:Value),us=[v]->v.cells=#[v]:=λv e=>by
   have:=h1 v (by grind);cases v<;>simp_all [Value.cells,Value.oneCell']
  have plain:bA y=[.p y]->∃us',cellsOf us'=us++ws/\dh g.M us' (y::ys):=λhp=>by
   rw[hp]at k1;cases k1 with
   |@cons v _ _ _ hv hs=>
    cases hs;refine⟨v::vs,?_,.cons (bO hv) k3⟩
    grind [cellsOf]
  cases y with
  |agg b l=>
   cases b with
   |true=>have:=hn (.agg true l) H;grind [cE]
   |false=>
    simp only[bA]at k1;have hr:=EW l k1;refine⟨.agg us.toArray::vs,?_,.cons (.agg hr λv hv=>h1 v (by grind)) k3⟩
    grind [cellsOf,Value.cells]
  |_=>exact plain rfl
section
variable{w0:World}{M0:Mem}{F:Nat->Prop}{tb:Tb}{g:G}{w:World}
def bf.AE(h:bf w0 M0 F tb g w){id b c n:Nat}{ob:Ob}{ys:List PC}(hl:lk id tb.bx=some ob)(he:g.ob id=some (b,c))(iQ:0<c)(hs:0<ob.sz)(hn:n<=c)(hx:n*ob.sz<=ob.xs.length)(hc:ob.xs.take (n*ob.sz)=ys.flatMap bA)(hy:ys.length=n)(hw':∀y∈ys,y.width=ob.sz)(ht:∀y∈ys,cE y=true):∃N,g.M.le N/\bf w0 M0 F ((tb.cV id).cC ob.el ob.sz) ((g.with N).ez tb.nx (.slice (some ⟨b,0,none⟩) n c)) w/\jc N (.slice (some ⟨b,0,none⟩) n c) (.sl ys):=by
 have f1':=he;obtain⟨cur,f2,f3,⟨tt,fz,f4,fo⟩,f5,f6,f7,f8,f9⟩:=(h.boxes id ob hl).real he iQ;generalize b=b' at*;generalize c=c' at*
 let N:Mem:=λk o=>if k=b' then(cur.toList.take (n*ob.sz))[o]? else g.M k o
 have hNb:∀o,N b' o=(cur.toList.take (n*ob.sz))[o]?:=λo=>by grind
 have hNo:∀k,k≠b'->N k=g.M k:=λk hk=>by grind
 have hM:g.M.le N:=λk o v e=>by
  grind
 have hne:∀i p k m,lk i tb.bx=some p->i≠id->g.ob i=some (k,m)->0<m->k≠b':=λi p k m e hi hg hm=>h.iC i id p ob k m b' c' e hl hi hg f1' hm iQ;have hnr:∀i r v,lk i tb.rw=some r->g.rv i=some v->fO v≠some b':=λi r v e hv=>h.gS id i ob r b' c' v hl e f1' hv iQ;have SM:(g.with N).le ((g.with N).ez tb.nx (.slice (some ⟨b',0,none⟩) n c')):=⟨Mem.le_refl _,λ_ _ e=>e,λi p e=>by have:=h.pO e;grind [G.ez]⟩;have eM:At N b' 0 (cur.toList.take (n*ob.sz)):=λj v e=>by grind
 have hcells:aV g (cur.toList.take (n*ob.sz)) (ys.flatMap bA):=by
  have:=f8.take (n*ob.sz)
  grind
 have hone:∀u∈cur.toList.take (n*ob.sz),u.oneCell'=true:=λu hu=>f9 u (by
  grind)
 obtain⟨us,pI,CA⟩:=vt ys hcells hone ht;refine⟨N,hM,⟨⟨λk o v e=>?_,h.holds.g.mono hM⟩,h.keep,λk hk hf=>?_,h.HC.trans hM,λi p e=>?_,λi el sz e=>?_,λi j p q k m k' m' ei ej hij=>?_,λi j r s u v k ei ej hij e1 e2 e3=>?_,λi j p r k m v ei ej e1 e2 p1=>?_,λi hi=>?_⟩,?_⟩
 .by_cases hk:k=b'
  .subst hk;have e:N k o=some v:=e
   grind [World.cell?]
  .exact h.holds k o v (by rw[<-hNo k hk];exact e)
 .have hkb:k≠b':=λhh=>by
   grind
  show N k=M0 k;rw[hNo k hkb];exact h.old k hk hf
 .simp only[Tb.cC,Tb.cV,cQ]at e;split at e
  .grind
  .rename_i hi;obtain⟨b1,c1,q1,qr,q0⟩:=h.boxes i p e;refine⟨b1,c1,q1,λhp=>?_,q0⟩;obtain⟨uU,q2,q3,q4,q5,q6,q7,q8,q9⟩:=qr hp;exact⟨uU,q2,λoff=>by show N b1 off=none;grind,q4,q5,q6,q7,(q8.mono (G.qJ hM)).mono SM,q9⟩
 .simp only[Tb.cC,Tb.cV,bP]at e;split at e
  .rename_i hi;subst hi;injection e with e;injection e with e1 e2;subst e1;subst e2;refine⟨.slice (some ⟨b',0,none⟩) n c',by simp[G.ez],?_⟩;rcases iD n c' with hlt|hge
   .exact .inr ⟨b',n,c',cur,rfl,f2,⟨tt,fz,f4,fo⟩,f5,hlt,f6,hs,eM,λo v e=>by
     have e:N b' o=some v:=e
     grind⟩
   grind
  .rename_i hi;obtain⟨v,q1,q2⟩:=h.rows i el sz e;refine⟨v,by simp only[G.ez];rw[ah hi];exact q1,q2.imp (λh=>h) ?_⟩;rintro⟨b1,n1,KE,uU,g3,g4,g5,g6,g7,g8,g9,g10,g11⟩;have RN:b1≠b':=λhh=>hnr i _ v e q1 (by grind [ey]);exact⟨b1,n1,KE,uU,g3,g4,g5,g6,g7,g8,g9,g10.mono hM,λo v e=>g11 o v (by rw[<-hNo b1 RN];exact e)⟩
 .simp only[Tb.cC,Tb.cV,cQ]at ei ej;split at ei
  .grind
  .split at ej
   .grind
   .exact h.iC i j p q k m k' m' ei ej hij
 .simp only[Tb.cC,Tb.cV,bP]at ei ej;simp only[G.ez]at e1 e2;split at ei
  .rename_i hi;rw[ai hi]at e1;injection e1 with e1;subst e1;have:=gC e3;subst this;split at ej
   .omega
   .rename_i hj;rw[ah hj]at e2;exact hnr j s v ej e2
  .rename_i hi;rw[ah hi]at e1;split at ej
   .rename_i hj;rw[ai hj]at e2;injection e2 with e2;subst e2;intro e6;have:=gC e6;subst this;exact hnr i r u ei e1 e3
   .rename_i hj;rw[ah hj]at e2;exact h.jA i j r s u v k ei ej hij e1 e2 e3
 .simp only[Tb.cC,Tb.cV,bP,cQ]at ei ej;simp only[G.ez]at e2;split at ei
  .grind
  .rename_i hi;split at ej
   .rename_i hj;rw[ai hj]at e2;injection e2 with e2;subst e2;intro e6;have:=gC e6;exact hne i p k m ei hi e1 p1 this
   .rename_i hj;rw[ah hj]at e2;exact h.gS i j p r k m v ei ej e1 e2 p1
 .simp only[Tb.cC,Tb.cV]at hi;have:=h.fresh i O;simp only[G.ez];rw[ah O];exact this
 .have hlu:=CA.length;refine .sl (us:=us) O hn f6 hs (ew CA hw') (λv hv=>hone v (by grind)) (by grind) (CA.mono hM)
end
end Go.Av
