/- TiersAgain, part 5: an abstract interpreter over any program's form, with its proof of soundness; no condition. -/
import Derived.Test.YtgkdpbambfgahaaGreatDoorWad
import Derived.Laws.Externs
set_option linter.all false
set_option maxRecDepth 100000
set_option maxHeartbeats 64000000
namespace Go.Av
open Go.RowKit
def ou(w:World):Mem:=λb o=>w.cell? ⟨b,o,none⟩
def xh{w:World}{M:Mem}(h:iO w M):M.le (ou w):=λb o v e=>h b o v e
def zX{w:World}{M:Mem}(h:iO w M):iO w (ou w):=⟨λ_ _ _ h=>h,h.g.mono (xh h)⟩
def j_{α β:Type}(p:α->β->Prop):List α->List β->Prop
 |[],[]=>True
 |x::l,y::m=>p x y/\j_ p l m
 |_,_=>False
def dA(bx:List (Nat×Ob)):Nat->AV->PC->Prop
 |0,_,_=>False
 |k+1,.view id o n s _,.sl ys=>∃ob,lk id bx=some ob/\0<s/\ys.length=n/\(o+n)*s<=ob.xs.length/\(ob.xs.drop (o*s)).take (n*s)=ys.flatMap bA/\(∀y∈ys,y.width=s)/\(∀y∈ys,cE y=true)
 |k+1,.obj id off,.ref (.agg false ys)=>∃ob,lk id bx=some ob/\off+ys.length<=ob.xs.length/\j_ (dA bx k) ((ob.xs.drop off).take ys.length) ys
 |k+1,.obj id off,.ref y=>∃ob z,lk id bx=some ob/\ob.xs[off]?=some z/\y.plain=true/\dA bx k z y
 |k+1,.agg t xs,.agg t' ys=>t=t'/\j_ (dA bx k) xs ys
 |k+1,.mB f xs,.fn f' ys=>f=f'/\j_ (dA bx k) xs ys
 |k+1,x,y=>∃p,x.pc=some p/\(y=p\/y=p.wk)
section
variable{P:Program}{st:AS}{o:Oper}{w0:World}{M0:Mem}{F:Nat->Prop}{tb:Tb}{g:G}{w w':World}
theorem mV{M:Mem}{p:AV->PC->Prop}(hp:∀v x y,bJ g v x->p x y->jc M v y):∀{vs:List Value} {xs:List AV} {ys:List PC},aV g vs xs->j_ p xs ys->dh M vs ys
 |_,[],[],.nil,_=> .nil
 |_,_::_,_::_,.cons h hs,e=> .cons (hp _ _ _ h e.1) (mV hp hs e.2)
 |_,[],_::_,_,e=>e.elim
 |_,_::_,[],_,e=>e.elim
def za(hw:bf w0 M0 F tb g w){N:Mem}(hM:g.M.le N)(hN:∀id ob b c,lk id tb.bx=some ob->g.ob id=some (b,c)->0<c->∀o v,w.cell? ⟨b,o,none⟩=some v->N b o=some v):∀(k:Nat) (v:Value) (x:AV) (y:PC),bJ g v x->dA tb.bx k x y->jc N v y:=by
 have last:∀(v:Value) (x:AV) (y:PC),bJ g v x->(∃p,x.pc=some p/\(y=p\/y=p.wk))->jc N v y:=λv x y h e=>by
  obtain⟨p,e,rfl|rfl⟩:=e
  .exact(ry h _ e).mono hM
  .exact(KP (ry h p e)).mono hM
 intro k
 induction k with
 |zero=>intro v x y _ h;exact h.elim
 |succ k ih=>
  intro v x y hv h;unfold dA at h;split at h
  .omega
  .rename_i kk id of n s m ys hk;obtain⟨ob,hl,hs,hn,hle,hc,RB,hnt⟩:=h;cases hv with
   |view e h3 h4 h5 hm=>
    rename_i b cc ad;rcases oq n with h0|h0
    .have:ys=[]:=o5 O;subst this;subst h0;cases ad with
     |none=>
      cases h5 with
      |real _ _ ha _=>grind
      |void hz _=>
       subst hz;have:0-of=0:=O;rw[this];exact .dX
     |some ad=>
      cases h5 with
      |real off _ ha _=>
       injection ha with ha;subst ha;exact .sl (us:=[]) rfl O O hs H (by simp[cellsOf]) (λj v e=>by simp[cellsOf]at e) .nil
      |void hz0 _=>
       subst hz0;have:0-of=0:=O;rw[this];exact .ug ad
    .cases h5 with
     |void hz _=>omega
     |real off iQ had h5=>
     subst had;obtain rfl:=h5 (.inl O);obtain⟨cur,f2,f3,⟨tt,fz,f4,fo⟩,f5,f6,f7,f8,f9⟩:=(hw.boxes id ob hl).real e iQ;have e3:((cur.toList.take ob.xs.length).drop (of*s)).take (n*s)=(cur.toList.drop (of*s)).take (n*s):=by
      grind [List.drop_take]
     have Hq:aV g ((cur.toList.drop (of*s)).take (n*s)) (ys.flatMap bA):=by
      have:=(f8.drop (of*s)).take (n*s)
      grind
     have hone:∀u∈(cur.toList.drop (of*s)).take (n*s),u.oneCell'=true:=λu hu=>f9 u (by
      grind)
     obtain⟨us,pI,CA⟩:=vt ys Hq hone hnt;have hlu:=CA.length;refine .sl (us:=us) O O O hs (ew CA RB) (λv hv=>hone v (by grind)) ?_ (CA.mono hM);rw[pI];intro j u hj
     grind [World.cell?]
  .rename_i kk id off ys hk;obtain⟨ob,hl,hle,hall⟩:=h;cases hv with
   |obj e=>
    rename_i b cc;by_cases hne:ob.xs=[]
    .rw[hne]at hle;simp only[fQ,Nat.le_zero]at hle;have:ys=[]:=o5 O;subst this;refine .ref (u:= .agg #[]) (λj v e=>by simp[Value.cells]at e) ?_;exact jc.agg (vs:=[]) .nil H
    .have iQ:=(hw.boxes id ob hl).pos e hne;obtain⟨cur,f2,f3,⟨tt,fz,f4,fo⟩,f5,f6,f7,f8,f9⟩:=(hw.boxes id ob hl).real e iQ;have e3:((cur.toList.take ob.xs.length).drop off).take ys.length=(cur.toList.drop off).take ys.length:=by
      grind [List.drop_take]
     have Hq:aV g ((cur.toList.drop off).take ys.length) ((ob.xs.drop off).take ys.length):=by
      have:=(f8.drop off).take ys.length
      grind
     refine .ref (u:= .agg ((cur.toList.drop off).take ys.length).toArray) (λj u hj=>?_) (jc.agg (mV (λv x y h1 h2=>ih v x y h1 (by grind)) Hq hall) (λu hu=>f9 u ?_))
     all_goals grind [Value.cells,World.cell?]
  .rename_i kk id off y _ hk;obtain⟨ob,z,hl,hz,hp,hb⟩:=h;cases hv with
   |obj e=>
    rename_i b cc;have hne:ob.xs≠[]:=λhn=>by grind
    have iQ:=(hw.boxes id ob hl).pos e hne;obtain⟨cur,f2,f3,⟨tt,fz,f4,fo⟩,f5,f6,f7,f8,f9⟩:=(hw.boxes id ob hl).real e iQ;obtain⟨u,hu,hr⟩:=f8.get hz;have hy:jc N u y:=ih u z y hr (by grind);refine .ref (u:=u) (λj u' hj=>?_) hy
    grind [jZ,World.cell?]
  .rename_i kk t xs t' ys hk;obtain⟨rfl,hall⟩:=h;cases hv with
   |agg hs h1=>exact .agg (mV (λv x y h1 h2=>ih v x y h1 (by grind)) hs hall) h1
   |sE hs=>exact .sE (mV (λv x y h1 h2=>ih v x y h1 (by grind)) hs hall)
  .rename_i kk f xs f' ys hk;obtain⟨rfl,hall⟩:=h;cases hv with
   |mB hs=>exact .fn (mV (λv x y h1 h2=>ih v x y h1 (by grind)) hs hall)
  grind
def UU(hw:bf w0 M0 F tb g w)(k:Nat)(v:Value)(x:AV)(y:PC)(hv:bJ g v x)(h:dA tb.bx k x y):jc (ou w) v y:=za hw (xh hw.holds) (λ_ _ _ _ _ _ _ _ _ h=>h) k v x y hv h
def PC.flat:PC->Bool
 | .sc _=>true
 | .nil=>true
 | .agg _ xs=>NH xs
 |_=>false
where NH:List PC->Bool
 |[]=>true
 |x::l=>x.flat&&NH l
mutual
theorem IG{M N:Mem}:∀{v:Value} (x:PC),jc M v x->x.flat=true->jc N v x
 |v,.sc u,h,_=>by cases h with|sc _ h=>exact .sc _ h
 |v,.nil,h,_=>by cases h;exact .nil
 |v,.agg t xs,h,hf=>by
  simp only[PC.flat]at hf;cases h with
  |agg hs h1=>exact .agg (zb xs hs hf) h1
  |sE hs=>exact .sE (zb xs hs hf)
 |v,.sl xs,_,hf=>by simp[PC.flat]at hf
 |v,.ref x,_,hf=>by simp[PC.flat]at hf
 |v,.fn f xs,_,hf=>by simp[PC.flat]at hf
theorem zb{M N:Mem}:∀{vs:List Value} (xs:List PC),dh M vs xs->PC.flat.NH xs=true->dh N vs xs
 |_,[],h,_=>by cases h;exact .nil
 |_,x::xs,h,hf=>by
  simp only[PC.flat.NH,bG]at hf;cases h with|cons h1 hs=>exact .cons (IG x h1 hf.1) (zb xs hs hf.2)
end
def UW(P:Program)(gf:FuncId)(caps:List PC)(args:List AV)(tb:Tb)(k:AV->Tb->Prop):Prop:=∃ys r n,j_ (dA tb.bx n) args ys/\nc P gf (ys++caps) r/\r.flat=true/\k (.p r) tb
theorem ZQ{n:Nat}{c:Call}{f:Operand}{gf:FuncId}{caps ys:List PC}{r:PC}(ho:o.op= .call c)(hc:c.callee= .value f)(hf:(bT st.sl f).nm= .p (.fn (.func gf) caps))(hx:j_ (dA st.tb.bx n) (c.args.toList.map (bT st.sl)) ys)(hp:nc P gf (ys++caps) r)(hr:r.flat=true):eV P st o (.p r) st.tb:=by
 intro w0 M0 F g a w hw hop K Q hK;have sG:∀y,y∈o.op.operands->bJ g (a.eval y) (bT st.sl y):=λy hy=>kN y λt e=>hop t (e▸hy);have h1:=cu (sG f (by grind [Op.operands,Call.operands]));rw[hf]at h1;have jS:=bO h1;generalize hv:a.eval f=v at jS;cases jS with
 |fn pU=>
  rename_i cv;have hargs:=k_ (g:=g) (a:=a) (sl:=st.sl) c.args.toList (λy hy=>sG y (by grind [Op.operands,Call.operands]));have hall:=(mV (λv x y h1 h2=>UU hw n v x y h1 h2) hargs hx).append (pU.mono (xh hw.holds));have hrun:(execOp a.eval o).run P w= .ok (.enter gf ((c.args.toList.map a.eval)++cv).toArray) w:=by
   simp[execOp,ho,resolve,hc,hv,Deferred.ofValue,invoke,iH hp.1]
  unfold Oper.wp;rw[hrun];refine(hp.2 (ou w) w _ (zX hw.holds) hall).mono ?_;rintro e' w' ⟨v',N,rfl,hr',hH,hM,hO,hB⟩;have hH':iO w' g.M:=⟨λb o v e=>by
   have hlt:=hw.holds.lt e;rw[hB.cell (p:=⟨b,o,none⟩) hlt];exact hw.holds b o v e,hw.holds.g⟩
  have hw':=hw.later (Mem.le_refl _) hH' (λ_ _=>rfl) hB;exact hK v' w' g (G.le_refl g) hw' (.p (IG _ hr' hr))
def NI{h1:Option Addr->Nat->Nat->Option Addr->Nat->Nat->Sem Value}{h2:Array Value->Sem Value}{a b:Option Addr}{la ca lb cb:Nat}:Extern.SlicesOverlaps.overlaps.match_4 (λ_=>Sem Value) #[.slice a la ca,.slice b lb cb] h1 h2=h1 a la ca b lb cb:=rfl
def NJ{P:Program}(w:World)(tS tR e:TypeId)(ht:P.underlying tS=some (.slice e))(size:Nat)(hz:∀w,(Go.sizeOf e).run P w= .ok size w)(a b:Addr)(la ca lb cb:Nat)(hne:a.block≠b.block)(tA tB:TypeId)(kA kB:Nat)(hsa:w.shape? a.block=some (tA,kA))(hsb:w.shape? b.block=some (tB,kB))(hkA:kA≠0)(hkB:kB≠0)(hf:(w.frozen? a=false/\w.frozen? {block:=a.block,off:=kA}=false)\/(w.frozen? b=false/\w.frozen? {block:=b.block,off:=kB}=false)):(Extern.SlicesOverlaps.overlaps #[tS,tS] #[tR] #[.slice (some a) la ca,.slice (some b) lb cb]).run P w= .ok (.bool false) w:=by
 have hnb:(a.block !=b.block)=true:=by grind
 have akz:(a.block==b.block)=false:=by grind
 delta Extern.SlicesOverlaps.overlaps
 rw[NI];by_cases h0:la=0\/lb=0\/size=0
 .simp[run_underlying ht,hz,h0]
 .cases kA with
  |zero=>omega
  |succ kA=>
  cases kB with
  |zero=>omega
  |succ kB=>
   rcases hf with⟨h1,h2⟩|⟨h1,h2⟩
   .simp[run_underlying ht,hz,h0,hnb,akz,frozen,noView,viewAt,mayBeOne,stringish,shape,Sem.run,hsa,hsb,h1,h2]
   .simp[run_underlying ht,hz,h0,hnb,akz,frozen,noView,viewAt,mayBeOne,stringish,shape,Sem.run,hsa,hsb,h1,h2]
    all_goals (cases w.frozen? a<;>simp[h1,h2])
    all_goals (cases w.frozen? {block:=a.block,off:=kA+1}<;>simp[h1,h2])
def UX(w:World)(tS tR e:TypeId)(ht:P.underlying tS=some (.slice e))(size:Nat)(hz:∀w,(Go.sizeOf e).run P w= .ok size w)(a b:Option Addr)(la ca lb cb:Nat)(h:a=none\/b=none\/la=0\/lb=0):(Extern.SlicesOverlaps.overlaps #[tS,tS] #[tR] #[.slice a la ca,.slice b lb cb]).run P w= .ok (.bool false) w:=by
 delta Extern.SlicesOverlaps.overlaps
 rw[NI];cases a with
 |none=>simp[run_underlying ht,hz]
 |some a=>
  cases b with
  |none=>simp[run_underlying ht,hz]
  |some b=>
   have h0:la=0\/lb=0\/size=0:=by
    grind
   simp[run_underlying ht,hz,h0]
def Lw(P:Program)(gf:FuncId):Prop:=∃fn tS tR e,P.funcs[gf]?=some fn/\(fn.name=="runtime.NumGoroutine")=false/\fn.body.isNone=true/\Extern.findNext fn=none/\Extern.find fn=some (Extern.SlicesOverlaps.overlaps #[tS,tS] #[tR])/\P.underlying tS=some (.slice e)/\(aW P e).isSome=true
def uz:AV->Prop
 | .p (.sl _)=>True
 | .p .nil=>True
 |_=>False
def aoF(P:Program)(gf:FuncId)(args:List AV)(tb:Tb)(k:AV->Tb->Prop):Prop:=Lw P gf/\k (.p (.bool false)) tb/\∃id o n s m y ob,(args=[.view id o n s m,y]\/args=[y,.view id o n s m])/\lk id tb.bx=some ob/\ob.sz=s/\0<s/\ob.el<1000000/\uz y.nm
def ZR{M:Mem}{w:World}{v:Value}{y:AV}(hH:iO w M)(hv:∀x,y= .p x->jc M v x)(h:uz y):∃ad n c,v= .slice ad n c/\∀a,ad=some a->0<n->(∃t k,w.shape? a.block=some (t,k)/\k≠0)/\∃o u,M a.block o=some u:=by
 unfold uz at h;split at h
 .rename_i xs;have:=hv _ rfl;cases this with
  |dX=>grind
  |ug a=>grind
  |sl hn hc hm hsz hu h1 eM hr=>
   rename_i b off n cap sz us;refine⟨_,_,_,rfl,λa e hn0=>?_⟩;injection e with e;subst e;have kW:=dx us hu;have hpos:0<(cellsOf us).length:=by simp_all
   have hM:=eM 0 ((cellsOf us)[0]) (n_ hpos);refine⟨?_,_,_,hM⟩;have hc:=hH _ _ _ hM
   grind [World.cell?,World.shape?]
 .have:=hv _ rfl;cases this
  grind
 grind
def akA{c:Call}{f:Operand}{gf:FuncId}(ho:o.op= .call c)(hc:c.callee= .value f)(hf:(bT st.sl f).nm= .p (.fn (.func gf) []))(h:Lw P gf){id of n s:Nat}{m:Option Nat}{y:AV}{ob:Ob}(ha:c.args.toList.map (bT st.sl)=[.view id of n s m,y]\/c.args.toList.map (bT st.sl)=[y,.view id of n s m])(hl:lk id st.tb.bx=some ob)(hsz:ob.sz=s)(hs:0<s)(UY:ob.el<frM)(hy:uz y.nm):eV P st o (.p (.bool false)) st.tb:=cg λw0 M0 F g a w hw hop=>by
 have h1:=cu (hop f (by grind [Op.operands,Call.operands]));rw[hf]at h1;have jS:=bO h1;generalize hv:a.eval f=v at jS;cases jS with
 |fn pU=>
  cases pU;obtain⟨fn,tS,tR,e,f1,f2,f3,f4,f5,f6,f7⟩:=h;obtain⟨sz,Yw⟩:=qt.1 f7;have hargs:=k_ (g:=g) (a:=a) (sl:=st.sl) c.args.toList (λy hy=>hop y (by grind [Op.operands,Call.operands]));have core:∀(u v:Value),bJ g u (.view id of n s m)->bJ g v y->(Extern.SlicesOverlaps.overlaps #[tS,tS] #[tR] #[u,v]).run P w= .ok (.bool false) w/\(Extern.SlicesOverlaps.overlaps #[tS,tS] #[tR] #[v,u]).run P w= .ok (.bool false) w:=by
   intro u v hu hv;obtain⟨ad,k,cap,rfl,aoG⟩:=ZR (w:=w) (M:=g.M) (y:=y.nm) hw.holds (λx e=>by have:=cu hv;rw[e]at this;exact bO this) hy;cases hu with
   |view e3 h3 h4 h5 hm=>
    rename_i b cc au;have ov0:=λ(a b:Option Addr) (la ca lb cb:Nat) (h:a=none\/b=none\/la=0\/lb=0)=>UX (P:=P) w tS tR e f6 sz (λw=>run_sizeOf Yw w) a b la ca lb cb h;cases au with
    |none=>grind
    |some au=>
    cases ad with
    |none=>grind
    |some ad=>
    by_cases hn0:n=0
    .grind
    by_cases Qa:k=0
    .grind
    obtain⟨⟨tB,kB,q1,q2⟩,o',u',q3⟩:=aoG ad rfl O;cases h5 with
    |void hz _=>omega
    |real off iQ had h5=>
    injection had with had;subst had;obtain⟨cur,p2,p3,⟨tt,fz,p4,fo⟩,p5,p6,p7,p8,p9⟩:=(hw.boxes id ob hl).real e3 iQ;obtain⟨rfl,rfl⟩:=fo.low UY;have hne:b≠ad.block:=λhh=>by grind
    have UZ:w.shape? b=some (ob.el,cur.size):=by grind [World.shape?]
    have hk:cur.size≠0:=Nat.ne_of_gt (Nat.lt_of_lt_of_le (by simp_all) p5);have hfz:∀o,w.frozen? ⟨b,o,none⟩=false:=λo=>by grind [World.frozen?]
    exact⟨NJ w tS tR e f6 sz (λw=>run_sizeOf Yw w) ⟨b,off,none⟩ ad _ _ _ _ hne _ _ _ _ UZ q1 hk q2 (.inl ⟨hfz _,hfz _⟩),NJ w tS tR e f6 sz (λw=>run_sizeOf Yw w) ad ⟨b,off,none⟩ _ _ _ _ (Ne.symm hne) _ _ _ _ q1 UZ q2 hk (.inr ⟨hfz _,hfz _⟩)⟩
  refine⟨.bool false,w,g,?_,G.le_refl g,hw,.p (.sc _ rfl)⟩;have ae8:∃u v,(c.args.toList.map a.eval)=[u,v]/\(Extern.SlicesOverlaps.overlaps #[tS,tS] #[tR] #[u,v]).run P w= .ok (.bool false) w:=by
   rcases ha with ha|ha
   .rw[ha]at hargs;generalize c.args.toList.map a.eval=l at hargs;cases hargs with|cons h1 hs=>cases hs with|cons h2 hs=>cases hs;grind
   .rw[ha]at hargs;generalize c.args.toList.map a.eval=l at hargs;cases hargs with|cons h1 hs=>cases hs with|cons h2 hs=>cases hs;grind
  obtain⟨u,v',Ft,hrun⟩:=ae8;have hl3:c.args.map a.eval=#[u,v']:=by
   grind
  have oD:=run_callFunc_extern f1 f2 f3 f4 f5 #[u,v'] w;rw[hrun]at oD;simp[execOp,ho,resolve,hc,hv,Deferred.ofValue,invoke,hl3,oD]
def Zn(P:Program)(gf:FuncId)(xs:List PC)(r:PC):Prop:=∃fn e,P.funcs[gf]?=some fn/\(fn.name=="runtime.NumGoroutine")=false/\fn.body.isNone=true/\Extern.findNext fn=none/\Extern.find fn=some e/\∀(M:Mem) (w:World) (vs:List Value),iO w M->dh M vs xs->∃v,(e vs.toArray).run P w= .ok v w/\jc M v r
def aoH(P:Program)(gf:FuncId)(args:List AV)(tb:Tb)(k:AV->Tb->Prop):Prop:=∃xs r,fS (args.map AV.nm)=some xs/\Zn P gf xs r/\k (.p r) tb
def akB{c:Call}{f:Operand}{gf:FuncId}{xs:List PC}{r:PC}(ho:o.op= .call c)(hc:c.callee= .value f)(hf:(bT st.sl f).nm= .p (.fn (.func gf) []))(h:Zn P gf xs r)(hx:fS (c.args.toList.map λy=>(bT st.sl y).nm)=some xs):eV P st o (.p r) st.tb:=cg λw0 M0 F g a w hw hop=>by
 have sG:∀y,y∈o.op.operands->bJ g (a.eval y) ((bT st.sl y).nm):=λy hy=>cu (hop y hy);have h1:=sG f (by grind [Op.operands,Call.operands]);rw[hf]at h1;have jS:=bO h1;generalize hv:a.eval f=v at jS;cases jS with
 |fn pU=>
  cases pU;obtain⟨fn,e,f1,f2,f3,f4,f5,f6⟩:=h;have hargs:=nT (g:=g) (a:=a) c.args.toList xs (λy hy=>sG y (by grind [Op.operands,Call.operands])) hx;obtain⟨v,hrun,hr⟩:=f6 g.M w _ hw.holds hargs;refine⟨v,w,g,?_,G.le_refl g,hw,.p hr⟩;have hl3:c.args.map a.eval=(c.args.toList.map a.eval).toArray:=by
   grind
  have oD:=run_callFunc_extern f1 f2 f3 f4 f5 (c.args.toList.map a.eval).toArray w;rw[hrun]at oD;rw[<-hl3]at oD;simp[execOp,ho,resolve,hc,hv,Deferred.ofValue,invoke,oD]
def akC(P:Program)(gf:FuncId)(args:List AV)(tb:Tb)(k:AV->Tb->Prop):Prop:=aoF P gf args tb k\/aoH P gf args tb k
theorem Qb{s d e:TypeId}{x:Operand}{b:ByteArray}{dQ:Nat}(ho:o.op= .convert s d x)(hx:(bT st.sl x).nm= .p (.sc (.string b)))(hs:isStr P s=true)(hd:fT P d=true)(hel:dF P d=some (e,1,dQ))(hl:(bs b).length<=9223372036854775807):eV P st o (.view st.tb.nx 0 (bs b).length 1 none) (st.tb.bD ⟨e+1000000,1,(af (bs b)).map .p⟩):=cg λw0 M0 F g a w hw h=>by
 have e1:=cu (h x (by simp[ho,Op.operands]));rw[hx]at e1;have e1:=bU e1;obtain⟨e',vN,FZ⟩:=pW hd;obtain⟨hU,_⟩:=iq hel;rw[hU]at vN;injection vN with vN;injection vN with vN;subst vN;have hr:=run_bytes_of_string (P:=P) w s d e b (nt hs) hU FZ;have hl':=hl;rw[nN]at hl';have hcap:=grownCap_ge w b.size 0 e;have Ei:=grownCap_le_maxLen w b.size 0 e (by grind [maxLen]);have RB:bf w0 M0 F st.tb g w.drew:=hw.drew;generalize grownCap w b.size 0 e=cap at hr hcap Ei;have hlen:(bs b).length=b.size:=nN b;have hB:Below w.drew.heap.size w.drew (w.drew.alloc (.cells (bytesRow b cap) e ((bytesRow b cap).size,(bytesRow b cap).size+1))):=(Below.refl _ _).alloc (aX _) _;have hrow:(bytesRow b cap).toList.take (bs b).length=(bs b).map λb=>Value.int .u8 b.toNat:=by
  unfold bytesRow;rw[Array.toList_append,vi (by simp_all)];rw[gv (by simp_all)];simp[bs]
 have key:=RB.SL (o:=⟨e+1000000,1,(af (bs b)).map .p⟩) (cur:=bytesRow b cap) (c:=cap) hB ⟨e,((bytesRow b cap).size,(bytesRow b cap).size+1),heap_alloc_new w.drew _,.inr ⟨rfl,aX _⟩⟩ (by simp[bytesRow];omega) Ei (by simp[bytesRow,af,hlen]) (by
  grind [af,lY,mO]) (by intro v hv;unfold bytesRow at hv;simp at hv;rcases hv with⟨_,_,rfl⟩|⟨_,rfl⟩<;>rfl)
 refine⟨.slice (some ⟨w.heap.size,0,none⟩) b.size cap,_,_,?_,RB.nP _ _,key,?_⟩
 .simp only[execOp,ho,e1,Sem.run_bind,hr];rfl
 .have:=bJ.view (g:=g.eN st.tb.nx w.heap.size cap) (id:=st.tb.nx) (b:=w.heap.size) (c:=cap) (o:=0) (n:=b.size) (s:=1) (a:=some ⟨w.heap.size,0,none⟩) (by simp[G.eN]) O Ei (by
   rcases oq cap with h0|h0
   .exact .void h0 (.inr ⟨_,rfl⟩)
   .exact .real 0 h0 rfl (λ_=>H)) (m:=none) (λk hk=>by grind)
  simp_all
def U0{d:TypeId}{x:Operand}{id f n z:Nat}{m:Option Nat}{ob:Ob}(ho:o.op= .convert d d x)(hx:bT st.sl x= .view id f n z m)(hd:fT P d=true)(hl:lk id st.tb.bx=some ob)(hel:ob.el<frM)(hne:0<ob.xs.length)(hn:0<n):eV P st o (.view id f n z m) (st.tb.aY id {ob with el:=ob.el+1000000}):=cg λw0 M0 F g a w hw h=>by
 have h1:=h x (by simp[ho,Op.operands]);rw[hx]at h1;obtain⟨e,vN,FZ⟩:=pW hd;generalize hv:a.eval x=v at h1;have CA:=h1;cases h1 with
 |view e3 h3 h4 h5 hm=>
  rename_i b c au;have iQ:0<c:=O;cases h5 with
  |void hz _=>omega
  |real off _ had h5=>
  subst had;obtain⟨cur,p2,p3,⟨tt,fz,p4,fo⟩,p5,p6,p7,p8,p9⟩:=(hw.boxes id ob hl).real e3 iQ;obtain⟨rfl,rfl⟩:=fo.low hel;have hsh:w.shape? b=some (ob.el,cur.size):=by grind [World.shape?]
  have hfz:(w.freeze ⟨b,cur.size,none⟩ 1).heap[b]?=some (.cells cur ob.el (cur.size,cur.size+1)):=by
   grind [World.freeze]
  have key:=hw.aco (w':=w.freeze ⟨b,cur.size,none⟩ 1) (o':={ob with el:=ob.el+1000000}) hl e3 iQ p4 (by grind [World.freeze]) (by grind [World.freeze]) (by grind [World.freeze]) (by grind [World.freeze]) (λk hk=>by grind [World.freeze]) hfz rfl (λ_=> .inr ⟨rfl,aX _⟩) rfl p7 p8 p9;refine⟨_,_,g,?_,G.le_refl g,key,CA⟩;simp[execOp,ho,hv,convert,run_underlying vN,run_underlying FZ,markStringish,hsh]
def II{P:Program}{s d:TypeId}{v:Value}{l:aF}{M:Mem}{w:World}(hH:iO w M)(h:jc M v (.sl (af l)))(hs:fT P s=true)(hd:isStr P d=true):(convert s d v).run P w= .ok (A_ l) w:=by
 obtain⟨e,vN,FZ⟩:=pW hs;generalize hz:af l=zs at h;cases h with
 |dX=>
  have:l=[]:=by cases l<;>simp_all [af]
  subst this;have hr:=run_convert_bytes_string (P:=P) w s d e none 0 0 vN FZ (nt hd);rw[hr];rfl
 |ug ad=>
  have:l=[]:=by cases l<;>simp_all [af]
  subst this;have hr:=run_convert_bytes_string (P:=P) w s d e (some ad) 0 0 vN FZ (nt hd);rw[hr];rfl
 |sl hn hc hm hsz hu h1c eM qu=>
  rename_i b off n cap sz us;subst hz;have pI:=lU l qu;subst pI;rw[i_]at eM;have hn':n=l.length:=by grind
  subst hn';have hr:=run_convert_bytes_back (P:=P) w s d e ⟨b,off,none⟩ cap l vN FZ (nt hd) (λj hj=>by
   rw[Addr.add_lit];exact hH _ _ _ (eM j _ (by grind)))
  omega
theorem U2{s d:TypeId}{x:Operand}{id f n z:Nat}{m:Option Nat}{l:aF}(ho:o.op= .convert s d x)(hx:bT st.sl x= .view id f n z m)(hs:fT P s=true)(hd:isStr P d=true)(hb:dA st.tb.bx 1 (.view id f n z m) (.sl (af l))):eV P st o (.p (.str l)) st.tb:=cg λw0 M0 F g a w hw h=>by
 have h1:=h x (by simp[ho,Op.operands]);rw[hx]at h1;have hr:=za hw (xh hw.holds) (λ_ _ _ _ _ _ _ _ _ h=>h) 1 _ _ _ h1 hb;have hc:=II (P:=P) (zX hw.holds) hr hs hd;exact⟨A_ l,w,g,by simp only[execOp,ho,Sem.run_bind,hc];rfl,G.le_refl g,hw,.p (.sc _ rfl)⟩
end
end Go.Av
namespace Go.Av
open Go.RowKit
section
variable{P:Program}{st:AS}{o:Oper}
theorem Vq(n:Nat)(u:Value):(List.replicate n (PC.sc u)).flatMap bA=(List.replicate n (PC.sc u)).map .p:=by
 induction n with
 |zero=>rfl
 |succ n ih=>rw[uX,cU,ih];rfl
theorem akN{t e:TypeId}{x y:Operand}{dQ n:Nat}{kl kc:IntKind}{u:Value}(ho:o.op= .makeSlice t x y)(ht:dF P t=some (e,1,dQ))(hz:bX P e=some [.sc u])(hx:(bT st.sl x).nm= .p (.sc (.int kl n)))(hy:(bT st.sl y).nm= .p (.sc (.int kc n)))(hb:dQ*n<=281474976710656)(hc:n<=maxLen):eV P st o (.p (.sl (List.replicate n (.sc u)))) ⟨st.tb.bx,st.tb.rw,st.tb.nx+2⟩:=by
 intro w0 M0 F g a w hw h K Q hK;refine akO ho ht O hz hx hy (aX n) hb hc w0 M0 F g a w hw h K Q ?_;intro v w' g' hle hS hv;rw[Vr]at hS;have hold:∀i p,lk i st.tb.bx=some p->i≠st.tb.nx:=λi p e=>by
  obtain⟨b,c,e1,_⟩:=hw.boxes i p e;have:=hw.Eb e1;omega
 cases hv with
 |view e0 h3 h4 h5 hm=>
  rename_i b c au;obtain rfl:c=n:=hm n rfl;have hl:lk st.tb.nx (st.tb.bD ⟨e,1,(List.replicate c (PC.sc u)).map .p⟩).bx=some ⟨e,1,(List.replicate c (PC.sc u)).map .p⟩:=by simp[Tb.bD,lk]
  cases h5 with
  |void hz0 AF=>
   subst hz0;refine hK _ _ g' hle (hS.sub (λi p hp=>?_) (λ_ _ h=>h) (by simp[Tb.bD])) ?_
   .grind [Tb.bD,lk]
   .rcases AF with rfl|⟨a',rfl⟩
    .exact .p .dX
    .exact .p (.ug a')
  |real off iQ had h5=>
   subst had;obtain rfl:off=0:=O;obtain⟨N,k1,k2,k3⟩:=hS.AE (n:=c) (ys:=List.replicate c (.sc u)) hl e0 iQ H (aX _) H (by
    grind [Vq,gv]) H (λy hy=>by rw[(xZ.1 hy).2];rfl) (λy hy=>by rw[(xZ.1 hy).2];rfl)
   have qp:(st.tb.bD ⟨e,1,(List.replicate c (PC.sc u)).map .p⟩).nx=st.tb.nx+1:=rfl;refine hK _ w' ((g'.with N).ez (st.tb.bD ⟨e,1,(List.replicate c (PC.sc u)).map .p⟩).nx (.slice (some ⟨b,0,none⟩) c c)) (hle.trans ⟨k1,λ_ _ h=>h,λi p h=>by have:=hS.pO h;simp only[G.ez,G.with];grind⟩) (k2.sub (a_:=⟨st.tb.bx,st.tb.rw,st.tb.nx+2⟩) (λi p hp=>?_) (λi p hp=>?_) (by grind [Tb.cC,Tb.cV])) (.p k3)
   .grind [Tb.cC,Tb.cV,Tb.bD,cQ,bP]
   .simp only[Tb.cC,Tb.cV,bP];split
    .rename_i hi;subst hi;obtain⟨v',q1,_⟩:=hw.rows _ p.1 p.2 hp;have:=hw.pO q1;omega
    .exact hp
end
def Wu(tb:Tb)(a_:Tb):AV->PC->Prop
 | .view id o n s _,.sl ys=>∃ob,lk id tb.bx=some ob/\o=0/\ob.sz=s/\0<s/\n*s<=ob.xs.length/\ob.xs.take (n*s)=ys.flatMap bA/\ys.length=n/\(∀y∈ys,y.width=s)/\(∀y∈ys,cE y=true)/\a_=⟨del id tb.bx,tb.rw,tb.nx+1⟩
 |x,y=>x.pc=some y/\a_=tb
def aa9(tb a_:Tb):List AV->List PC->Prop
 |[],[]=>a_=tb
 |x::xs,y::ys=>∃t,Wu tb t x y/\aa9 t a_ xs ys
 |_,_=>False
def aa6(tb a_:Tb):AV->PC->Prop
 | .agg false xs,.agg false ys=>aa9 tb a_ xs ys
 |x,y=>Wu tb a_ x y
def Gz(tb a_:Tb):List AV->List PC->Prop
 |[],[]=>a_=tb
 |x::xs,y::ys=>∃t,aa6 tb t x y/\Gz t a_ xs ys
 |_,_=>False
section
variable{P:Program}{st:AS}{o:Oper}{w0:World}{M0:Mem}{F:Nat->Prop}{g:G}{w:World}
theorem Oe{tb a_:Tb}{x:AV}{y:PC}{v:Value}(hw:bf w0 M0 F tb g w)(hv:bJ g v x)(h:Wu tb a_ x y):∃g',g.le g'/\bf w0 M0 F a_ g' w/\jc g'.M v y:=by
 unfold Wu at h;split at h
 .rename_i id o n s m ys;obtain⟨ob,hl,rfl,hsz,hs,hx,hc,hy,hw',ht,rfl⟩:=h;subst hsz;have agP:∀i p,lk i (del id tb.bx)=some p->lk i tb.bx=some p:=λi p h=>by
   grind [cQ]
  cases hv with
  |view e h3 h4 h5 hm=>
   rename_i b c au;cases h5 with
   |void hz AF=>
    subst hz;have hn0:n=0:=O;subst hn0;have:ys=[]:=o5 hy;subst this;refine⟨g,G.le_refl g,hw.sub agP (λ_ _ h=>h) (Nat.le_succ _),?_⟩;rcases AF with rfl|⟨a',rfl⟩
    .exact .dX
    .exact .ug a'
   |real off iQ had h5=>
    subst had;obtain rfl:off=0:=O;obtain⟨N,k1,k2,k3⟩:=hw.AE hl e iQ hs O hx hc hy hw' ht;refine⟨_,?_,k2.sub (a_:=⟨del id tb.bx,tb.rw,tb.nx+1⟩) (λi p h=>h) (λi p h=>?_) (aX _),k3⟩
    .exact⟨k1,λ_ _ h=>h,λi p h=>by have:=hw.pO h;simp only[G.ez,G.with];grind⟩
    .simp only[Tb.cC,Tb.cV,bP];split
     .rename_i hi;subst hi;obtain⟨v',q1,_⟩:=hw.rows tb.nx p.1 p.2 h;have:=hw.pO q1;omega
     omega
 grind [G.le_refl,ry]
theorem Og:∀{tb a_:Tb} {g:G} (xs:List AV) {ys:List PC} {vs:List Value},bf w0 M0 F tb g w->aV g vs xs->aa9 tb a_ xs ys->∃g',g.le g'/\bf w0 M0 F a_ g' w/\dh g'.M vs ys
 |tb,a_,g,[],ys,vs,hw,hv,h=>by
  cases ys with
  |nil=>unfold aa9 at h;subst h;cases hv;exact⟨g,G.le_refl g,hw,.nil⟩
  |cons y ys=>exact h.elim
 |tb,a_,g,x::xs,ys,vs,hw,hv,h=>by
  cases ys with
  |nil=>exact h.elim
  |cons y ys=>
   obtain⟨t,h1,h2⟩:=h;cases hv with
   |cons a as=>
    obtain⟨g1,k1,k2,k3⟩:=Oe hw a h1;obtain⟨g2,l1,l2,l3⟩:=Og xs k2 (as.mono k1) h2;exact⟨g2,k1.trans l1,l2,.cons (k3.mono l1.M) l3⟩
def aa_{tb a_:Tb}{x:AV}{y:PC}{v:Value}(hw:bf w0 M0 F tb g w)(hv:bJ g v x)(h:aa6 tb a_ x y):∃g',g.le g'/\bf w0 M0 F a_ g' w/\jc g'.M v y:=by
 unfold aa6 at h;split at h
 .cases hv with
  |agg hs h1=>
   obtain⟨g',k1,k2,k3⟩:=Og _ hw hs h;exact⟨g',k1,k2,.agg k3 h1⟩
 grind [Oe]
theorem Oh:∀{tb a_:Tb} {g:G} (xs:List AV) {ys:List PC} {vs:List Value},bf w0 M0 F tb g w->aV g vs xs->Gz tb a_ xs ys->∃g',g.le g'/\bf w0 M0 F a_ g' w/\dh g'.M vs ys
 |tb,a_,g,[],ys,vs,hw,hv,h=>by
  cases ys with
  |nil=>unfold Gz at h;subst h;cases hv;exact⟨g,G.le_refl g,hw,.nil⟩
  |cons y ys=>exact h.elim
 |tb,a_,g,x::xs,ys,vs,hw,hv,h=>by
  cases ys with
  |nil=>exact h.elim
  |cons y ys=>
   obtain⟨t,h1,h2⟩:=h;cases hv with
   |cons a as=>
    obtain⟨g1,k1,k2,k3⟩:=aa_ hw a h1;obtain⟨g2,l1,l2,l3⟩:=Oh xs k2 (as.mono k1) h2;exact⟨g2,k1.trans l1,l2,.cons (k3.mono l1.M) l3⟩
theorem Jy:∀{tb a_:Tb} (xs:List AV) (ys:List PC),Gz tb a_ xs ys->ys.length=xs.length
 |_,_,[],[],_=>rfl
 |_,_,x::xs,y::ys,⟨_,_,h⟩=>by simp[Jy xs ys h]
 |_,_,[],_::_,h=>h.elim
 |_,_,_::_,[],h=>h.elim
theorem WG{t e:TypeId}{sz dQ n:Nat}{ps:Array (Nat×Operand)}{ys:List PC}{a_:Tb}(ho:o.op= .buildSlice t n ps)(ht:dF P t=some (e,sz,dQ))(hsz:0<sz)(hio:bW 0 ps.toList=true)(hn:ps.size=n)(wY:n*sz<=16777216)(hys:Gz st.tb a_ (ps.toList.map λp=>bT st.sl p.2) ys)(hw':∀y∈ys,y.width=sz)(h1:∀y∈ys,∀b xs,y= .agg b xs->b=false):eV P st o (.full ys) a_:=cg λw0 M0 F g a w hw h=>by
 have Pe:aV g ((ps.toList.map (·.2)).map a.eval) ((ps.toList.map (·.2)).map (bT st.sl)):=k_ (ps.toList.map (·.2)) λy hy=>h y (by grind [Op.operands]);obtain⟨g1,gl,hw1,hr⟩:=Oh _ hw Pe (by rw[jF];exact hys);have rG:=ew hr hw';have CL:(((ps.map λ(i,x)=>(i,a.eval x)).toList).map (·.2))=(ps.toList.map (·.2)).map a.eval:=H;have LK:bW 0 ((ps.map λ(i,x)=>(i,a.eval x)).toList)=true:=by
  have key:∀(l:List (Nat×Operand)) (k:Nat),bW k l=true->bW k (l.map λp=>(p.1,a.eval p.2))=true:=by
   intro l
   induction l with
   |nil=>intro k _;rfl
   |cons p l ih=>grind [bW]
  simp_all
 have hrun:=lZ (P:=P) (w:=w) (n:=n) ht LK (by grind) wY hsz (by grind);rw[CL]at hrun;have hone:∀u∈cellsOf ((ps.toList.map (·.2)).map a.eval),u.oneCell'=true:=by
  have key:∀{us:List Value} {ys:List PC},dh g1.M us ys->(∀y∈ys,∀b xs,y= .agg b xs->b=false)->∀u∈cellsOf us,u.oneCell'=true:=by
   intro us ys hr
   induction us generalizing ys with
   |nil=>grind [cellsOf]
   |cons v us ih=>
    intro hb u hu;cases hr with
    |cons hv hr=>
     rename_i y ys;simp only[cellsOf,cU,lD]at hu;rcases hu with hu|hu
     .have hby:=hb y H;by_cases hp:y.plain=true
      .grind [jZ]
      .cases y with
       |agg b xs=>
        have:=hby b xs rfl;subst this;cases hv with
        |agg hs h1=>grind [Value.cells]
       |_=>simp[PC.plain]at hp
     .exact ih hr (λy hy=>hb y (by grind)) u hu
  grind
 obtain⟨e1,e2,e3,e4,e5⟩:=FT hw1 (cellsOf ((ps.toList.map (·.2)).map a.eval)) e (0,0);have hlen:ys.length=n:=by have:=Jy _ _ hys;grind
 refine⟨.slice (some ⟨w.heap.size,0,none⟩) n n,_,_,?_,?_,hw1.later e1 e2 e3 e4,?_⟩
 .have afo:ps.map (λ(p:Nat×Operand)=>(p.1,a.eval p.2))=((ps.map λ(i,x)=>(i,a.eval x)).toList).toArray:=by grind
  simp only[execOp,ho,Sem.run_bind];have CM:(Instr.buildSlice t n (ps.map λ(x:Nat×Operand)=>(x.1,a.eval x.2))).run P w= .ok (.slice (some ⟨w.heap.size,0,none⟩) n n) (w.alloc (.cells (cellsOf ((ps.toList.map (·.2)).map a.eval)).toArray e)):=O;rw[CM];rfl
 .exact gl.trans ⟨e1,λ_ _ h=>h,λ_ _ h=>h⟩
 .refine .full (.sl (sz:=sz) (by grind) (aX _) ?_ hsz rG hone e5 (hr.mono e1));have:n*1<=n*sz:=F7 _ hsz
  grind [maxLen]
end
def AV.XK(x y:AV):Prop:=y=x\/(∃p,x.pc=some p/\(y= .p p\/y= .p p.wk))\/(x= .p .nil/\y= .full [])\/∃id o n s m,x= .view id o n s m/\y= .view id o n s none
mutual
def AV.to:AV->AV->Prop
 | .agg t xs,.agg t' ys=>t=t'/\toAll xs ys
 |x,y=>x.XK y
def toAll:List AV->List AV->Prop
 |[],[]=>True
 |x::l,y::m=>x.to y/\toAll l m
 |_,_=>False
end
def jQ{g:G}{v:Value}{x y:AV}(h:bJ g v x)(e:x.XK y):bJ g v y:=by
 rcases e with rfl|⟨p,e,rfl|rfl⟩|⟨rfl,rfl⟩|⟨id,o,n,s,m,rfl,rfl⟩
 .omega
 .exact .p (ry h p e)
 .exact .p (KP (ry h p e))
 .cases h with|p h=>cases h;exact .full .dX
 .cases h with|view e h1 h2 h3 _=>exact .view e h1 h2 h3 (λ_ h=>by grind)
mutual
theorem G9{g:G}:∀{v:Value} (x:AV) {y:AV},bJ g v x->x.to y->bJ g v y
 |v,.agg t xs,y,h,e=>by
  by_cases hy:∃t' ys,y= .agg t' ys
  .obtain⟨t',ys,rfl⟩:=hy;simp only[AV.to]at e;obtain⟨rfl,e⟩:=e;cases h with
   |agg hs h1=>exact .agg (ig xs hs e) h1
   |sE hs=>exact .sE (ig xs hs e)
  .refine jQ h ?_;unfold AV.to at e
   grind
 |v,.p x,y,h,e=>jQ h (by grind [AV.to])
 |v,.obj i o,y,h,e=>jQ h (by grind [AV.to])
 |v,.own i o,y,h,e=>jQ h (by grind [AV.to])
 |v,.full x,y,h,e=>jQ h (by grind [AV.to])
 |v,.nn x,y,h,e=>jQ h (by grind [AV.to])
 |v,.view a b c d f,y,h,e=>jQ h (by grind [AV.to])
 |v,.mB f x,y,h,e=>jQ h (by grind [AV.to])
 |v,.pK f x,y,h,e=>jQ h (by grind [AV.to])
 |v,.o_ f x,y,h,e=>jQ h (by grind [AV.to])
 |v,.any,y,h,e=>jQ h (by grind [AV.to])
theorem ig{g:G}:∀{vs:List Value} (xs:List AV) {ys:List AV},aV g vs xs->toAll xs ys->aV g vs ys
 |_,[],ys,h,e=>by
  grind [toAll]
 |_,x::xs,ys,h,e=>by
  cases ys with
  |nil=>simp[toAll]at e
  |cons y ys=>
   simp only[toAll]at e;cases h with|cons h1 hs=>exact .cons (G9 x h1 e.1) (ig xs hs e.2)
end
def C9(P:Program)(gf:FuncId)(caps:List PC)(args:List AV)(tb:Tb)(k:AV->Tb->Prop):Prop:=∃ys ts r ts',toAll args ys/\dm P gf (ys++caps.map .p) ts r ts'/\aA tb.bx ts.bx/\aA tb.rw ts.rw/\ts.nx=tb.nx/\k r (tb.merge ts ts')
def td(P:Program)(gf:FuncId)(xs:List AV)(tb:Tb)(k:AV->Tb->Prop):Prop:=∃ys ts r ts',toAll xs ys/\dm P gf ys ts r ts'/\aA tb.bx ts.bx/\aA tb.rw ts.rw/\ts.nx=tb.nx/\k r (tb.merge ts ts')
def Ac(P:Program)(args:List AV)(tb:Tb)(k:AV->Tb->Prop):AV->Prop
 | .p (.fn (.func gf) caps)=>(∃xs,fS (args.map AV.nm)=some xs/\EP P gf (xs.map PC.wk++caps) λr=>k r tb)\/C9 P gf caps args tb k\/UW P gf caps args tb k\/(caps=[]/\akC P gf args tb k)
 | .mB (.func gf) xs=>td P gf (args++xs) tb k
 | .pK (.func gf) xs=>td P gf (xs++args) tb k
 |_=>False
def Dk(P:Program)(t:TypeId)(name:String):Option FuncId:=match P.info? t with
 |some i=>match i.methods.find? (·.name==name),P.underlying t with
  |some m,some (.pointer _)=>if m.path.isEmpty=true then(match m.func with|some (f,true)=>some f|_=>none)else none
  |_,_=>none
 |none=>none
def V1(P:Program)(x:AV)(args:List AV)(tb:Tb)(k:AV->Tb->Prop):Option FuncId->Prop
 |some gf=>C9 P gf [] (x::args) tb k
 |none=>False
def QF(P:Program)(name:String)(args:List AV)(tb:Tb)(k:AV->Tb->Prop):AV->Prop
 | .o_ t x=>V1 P x args tb k (Dk P t name)
 |_=>False
def loadT(P:Program)(t:TypeId)(tb:Tb)(k:AV->Tb->Prop):AV->Prop
 | .obj id off=>match lk id tb.bx,bS P t,aW P t with
  |some ob,some ag,some s=>(match nL off s ag ob.xs with
   |some y=>k y tb
   |none=>False)
  |_,_,_=>False
 |x=>zK P t (λy=>k y tb) x.nm
def storeT(P:Program)(t:TypeId)(tb:Tb)(k:AV->Tb->Prop)(x y:AV):Prop:=match x,y.dW with
 | .obj id off,some zs=>match lk id tb.bx with
  |some ob=>aW P t=some zs.length/\off+zs.length<=ob.xs.length/\k .any (tb.aY id {ob with xs:=ob.xs.take off++zs++ob.xs.drop (off+zs.length)})
  |none=>False
 |_,_=>False
def JH(rw:List (Nat×TypeId×Nat))(e:TypeId)(sz:Nat):AV->Option (Option Nat×List PC)
 | .own id xs=>if lk id rw=some (e,sz)then some (some id,xs)else none
 | .full xs=>some (none,xs)
 | .p .nil=>some (none,[])
 |_=>none
def alQ(rw:List (Nat×TypeId×Nat))(e:TypeId)(sz:Nat)(x:AV)(xs:List PC):Option Nat->Prop
 |none=>x= .full xs\/xs=[]/\x= .p .nil
 |some id=>x= .own id xs/\lk id rw=some (e,sz)
def E1{rw:List (Nat×TypeId×Nat)}{e:TypeId}{sz:Nat}{x:AV}{fX:Option Nat}{xs:List PC}(h:JH rw e sz x=some (fX,xs)):alQ rw e sz x xs fX:=by
 unfold JH at h;split at h
 .split at h
  .rename_i hl;injection h with h;injection h with h1 h2;subst h1;subst h2;exact⟨rfl,hl⟩
  grind
 .injection h with h;injection h with h1 h2;subst h1;subst h2;exact .inl rfl
 .injection h with h;injection h with h1 h2;subst h1;subst h2;exact .inr ⟨rfl,rfl⟩
 grind
def abh(P:Program)(u:TypeId)(e:TypeId)(sz dQ:Nat)(fX:Option Nat)(xs:List PC)(tb:Tb)(k:AV->Tb->Prop)(ys:List PC):Prop:=0<sz/\(aO P u).isSome=true/\(∀x∈xs,x.width=sz)/\(∀y∈ys,y.width=sz)/\(xs.length+ys.length)*dQ<=140737488355328/\xs.length+ys.length<=9223372036854775807/\k (.own tb.nx (xs++ys)) (rQ tb fX e sz)
def apF(P:Program)(u:TypeId)(e:TypeId)(sz dQ:Nat)(fX:Option Nat)(xs:List PC)(tb:Tb)(k:AV->Tb->Prop)(s:ByteArray):Prop:=sz=1/\isStr P u=true/\(∀x∈xs,x.width=1)/\(xs.length+(bs s).length)*dQ<=140737488355328/\xs.length+(bs s).length<=9223372036854775807/\k (.own tb.nx (xs++af (bs s))) (rQ tb fX e 1)
def Rb(P:Program)(u:TypeId)(e:TypeId)(sz dQ:Nat)(tb:Tb)(k:AV->Tb->Prop)(y:AV):Option (Option Nat×List PC)->Prop
 |some (fX,xs)=>match y with
  | .p (.sc (.string s))=>apF P u e sz dQ fX xs tb k s
  | .p (.sl ys)=>abh P u e sz dQ fX xs tb k ys
  | .p .nil=>abh P u e sz dQ fX xs tb k []
  |_=>False
 |none=>False
def Ap(P:Program)(u:TypeId)(tb:Tb)(k:AV->Tb->Prop)(x y:AV):Option (TypeId×Nat×Nat)->Prop
 |some (e,sz,dQ)=>Rb P u e sz dQ tb k y (JH tb.rw e sz x)
 |none=>False
def LQ(P:Program)(t:TypeId)(tb:Tb)(k:AV->Tb->Prop)(x:AV):Prop:=match x.dW with
 |some zs=>k (.obj tb.nx 0) (tb.bD ⟨t,zs.length,zs⟩)
 |none=>False
def G0(P:Program)(tb:Tb)(k:AV->Tb->Prop):Option (List PC)->TypeId->Prop
 |some zs,t=>k (.obj tb.nx 0) (tb.bD ⟨t,zs.length,zs.map .p⟩)
 |none,_=>False
def mkT(P:Program)(tb:Tb)(k:AV->Tb->Prop)(x y:AV):Option (TypeId×Nat×Nat)->Prop
 |some (e,s,dQ)=>match x,y,bX P e with
  | .p (.sc (.int _ n)),.p (.sc (.int _ c)),some z=>0<s/\0<=n/\n<=c/\dQ*c.toNat<=281474976710656/\c.toNat<=maxLen/\k (.view tb.nx 0 n.toNat s (some c.toNat)) (tb.bD ⟨e,s,(jD c.toNat z).map .p⟩)
  |_,_,_=>False
 |none=>False
def VY(tb:Tb)(k:AV->Tb->Prop)(n c:Int)(dQ s:Nat):Option (List PC)->Prop
 |some [.sc u]=>s=1/\0<=n/\n=c/\dQ*n.toNat<=281474976710656/\n.toNat<=maxLen/\k (.p (.sl (List.replicate n.toNat (.sc u)))) ⟨tb.bx,tb.rw,tb.nx+2⟩
 |_=>False
def mkP(P:Program)(tb:Tb)(k:AV->Tb->Prop)(x y:AV):Option (TypeId×Nat×Nat)->Prop
 |some (e,s,dQ)=>match x,y with
  | .p (.sc (.int _ n)),.p (.sc (.int _ c))=>VY tb k n c dQ s (bX P e)
  |_,_=>False
 |none=>False
def cpG(tb1:Tb)(k:AV->Tb->Prop)(id f n s:Nat)(ob:Ob)(n' f':Nat):Option Ob->Prop
 |some lG=>(f'+Nat.min n' n)*s<=lG.xs.length/\k (.p (.int (Nat.min n' n:Nat))) (tb1.aY id {ob with xs:=ob.xs.take (f*s)++(lG.xs.drop (f'*s)).take (Nat.min n' n*s)++ob.xs.drop (f*s+Nat.min n' n*s)})
 |none=>False
def cpP(tb1:Tb)(k:AV->Tb->Prop)(id f n s:Nat)(ob:Ob):AV->Prop
 | .view id' f' n' s' _=>s'=s/\cpG tb1 k id f n s ob n' f' (lk id' tb1.bx)
 |y=>(match y.nm with
  | .p (.sl ys)=>(∀y∈ys,y.width=s)/\(∀y∈ys,cE y=true)/\k (.p (.int (Nat.min ys.length n:Nat))) (tb1.aY id {ob with xs:=ob.xs.take (f*s)++(ys.take (Nat.min ys.length n)).flatMap bA++ob.xs.drop (f*s+Nat.min ys.length n*s)})
  |_=>False)
def cpO(tb:Tb)(k:AV->Tb->Prop)(id f n s:Nat)(y:AV):Option Ob->Prop
 |some ob=>ob.sz=s/\cpP (tb.aY id {ob with xs:=bH (f*s) ob.xs}) k id f n s {ob with xs:=bH (f*s) ob.xs} y
 |none=>False
def cpT(tb:Tb)(k:AV->Tb->Prop)(es:Option Nat):AV->AV->Prop
 | .view id f n s _,y=>es=some s/\cpO tb k id f n s y (lk id tb.bx)
 |_,_=>False
def clT(P:Program)(tb:Tb)(k:AV->Tb->Prop)(x:AV):Option (TypeId×Nat×Nat)->Prop
 |some (e,s,_)=>match x,bX P e with
  | .view id f n s' _,some z=>s'=s/\0<s/\(match lk id tb.bx with
   |some ob=>ob.sz=s/\f*s<=ob.xs.length/\k .any (tb.aY id {ob with xs:=ob.xs.take (f*s)++(jD n z).map .p++ob.xs.drop (f*s+n*s)})
   |none=>False)
  |_,_=>False
 |none=>False
def adi(tb:Tb)(k:AV->Tb->Prop)(id f n s m dQ:Nat)(e:TypeId)(ob:Ob)(j:Nat)(zs:List AV):Prop:=(f+n+j<=m/\k (.view id f (n+j) s (some m)) (tb.aY id {ob with xs:=ob.xs.take ((f+n)*s)++zs++ob.xs.drop ((f+n)*s+j*s)}))\/(m-f<n+j/\(n+j)*dQ<=140737488355328/\n+j<=9223372036854775807/\k (.view tb.nx 0 (n+j) s none) (tb.bD ⟨e,s,(ob.xs.drop (f*s)).take (n*s)++zs⟩))
def adj(tb:Tb)(k:AV->Tb->Prop)(id f n s dQ:Nat)(e:TypeId)(ob:Ob)(j:Nat)(zs:List AV):Prop:=f=0/\ob.el=e/\(n+j)*dQ<=140737488355328/\n+j<=9223372036854775807/\k (.view tb.nx 0 (n+j) s none) ((tb.cV id).bD ⟨e,s,ob.xs.take (n*s)++zs⟩)
def aaI(P:Program)(u:TypeId)(tb:Tb)(k:AV->Tb->Prop)(id f n s dQ:Nat)(e:TypeId)(ob:Ob)(y:AV):Option Nat->Prop
 |some m=>vE P tb u s (adi tb k id f n s m dQ e ob) y
 |none=>vE P tb u s (adj tb k id f n s dQ e ob) y
def QD(P:Program)(tb:Tb)(k:AV->Tb->Prop)(id f n s dQ:Nat)(e:TypeId)(ob:Ob):Option Nat->AV->Option (List PC)->Prop
 |none,.p (.sc (.int _ j)),some z=>f=0/\ob.sz=s/\ob.el=e/\0<s/\0<j/\(n+j.toNat)*dQ<=140737488355328/\n+j.toNat<=9223372036854775807/\k (.view tb.nx 0 (n+j.toNat) s none) ((tb.cV id).bD ⟨e,s,ob.xs.take (n*s)++(jD j.toNat z).map .p⟩)
 |some m,.p (.sc (.int _ j)),some z=>0<s/\0<j/\m-f<n+j.toNat/\(n+j.toNat)*dQ<=140737488355328/\n+j.toNat<=9223372036854775807/\k (.view tb.nx 0 (n+j.toNat) s none) (tb.bD ⟨e,s,(ob.xs.drop (f*s)).take (n*s)++(jD j.toNat z).map .p⟩)
 |_,_,_=>False
def QC(P:Program)(u:TypeId)(tb:Tb)(k:AV->Tb->Prop)(id f n s:Nat)(m:Option Nat)(dQ:Nat)(e:TypeId)(y:AV):Option IntKind->Option Ob->Prop
 |none,some ob=>ob.sz=s/\(f+n)*s<=ob.xs.length/\aaI P u tb k id f n s dQ e ob y m
 |some _,some ob=>(f+n)*s<=ob.xs.length/\QD P tb k id f n s dQ e ob m y.nm (bX P e)
 |_,none=>False
def agn(P:Program)(u:TypeId)(tb:Tb)(k:AV->Tb->Prop)(id f n s:Nat)(m:Option Nat)(y:AV):Option (TypeId×Nat×Nat)->Prop
 |some (e,s',dQ)=>s'=s/\QC P u tb k id f n s m dQ e y (Av.intOf P u) (lk id tb.bx)
 |none=>False
def adk(tb:Tb)(k:AV->Tb->Prop)(s dQ:Nat)(e:TypeId)(j:Nat)(zs:List AV):Prop:=j*dQ<=140737488355328/\j<=9223372036854775807/\k (.view tb.nx 0 j s none) (tb.bD ⟨e,s,zs⟩)
def Jg(tb:Tb)(k:AV->Tb->Prop)(s dQ:Nat)(e:TypeId):AV->Option (List PC)->Prop
 | .p (.sc (.int _ j)),some z=>0<s/\0<j/\j.toNat*dQ<=140737488355328/\j.toNat<=9223372036854775807/\k (.view tb.nx 0 j.toNat s none) (tb.bD ⟨e,s,(jD j.toNat z).map .p⟩)
 |_,_=>False
def C8(P:Program)(u:TypeId)(tb:Tb)(k:AV->Tb->Prop)(s dQ:Nat)(e:TypeId)(y:AV):Option IntKind->Prop
 |some _=>Jg tb k s dQ e y.nm (bX P e)
 |none=>vE P tb u s (adk tb k s dQ e) y
def isNone:AV->Prop
 | .full []=>True
 | .p .nil=>True
 |_=>False
def VZ(P:Program)(u:TypeId)(tb:Tb)(k:AV->Tb->Prop)(x y:AV):Option (TypeId×Nat×Nat)->Prop
 |some (e,s,dQ)=>isNone x/\C8 P u tb k s dQ e y (Av.intOf P u)
 |none=>False
def D4(P:Program)(md:Bool)(u:TypeId)(tb:Tb)(k:AV->Tb->Prop)(el:Option (TypeId×Nat×Nat)):AV->AV->Prop
 | .view id f n s m,y=>agn P u tb k id f n s m y el
 |x,y=>if md=true then VZ P u tb k x y el else Ap P u tb k x y.nm el
def aaG(P:Program)(t:TypeId)(n:Nat)(tb:Tb)(k:AV->Tb->Prop):AV->Prop
 | .full ys=>match dF P t with
  |some (e,sz,_)=>k (.view tb.nx 0 n sz (some n)) (tb.bD ⟨e,sz,ys.flatMap bA⟩)
  |none=>False
 |_=>False
def cvV(P:Program)(s d:TypeId)(tb:Tb)(k:AV->Tb->Prop)(x:AV):Prop:=fT P s=true/\isStr P d=true/\∃l:aF,dA tb.bx 1 x (.sl (af l))/\k (.p (.str l)) tb
def cvG(P:Program)(s d:TypeId)(tb:Tb)(k:AV->Tb->Prop)(x:AV)(id n:Nat):Option Ob->Prop
 |some ob=>s=d/\fT P d=true/\ob.el<1000000/\0<ob.xs.length/\0<n/\k x (tb.aY id {ob with el:=ob.el+1000000})
 |none=>False
def cvB(P:Program)(s d:TypeId)(tb:Tb)(k:AV->Tb->Prop)(b:ByteArray):Option (TypeId×Nat×Nat)->Prop
 |some (el,sz,_)=>isStr P s=true/\fT P d=true/\sz=1/\(bs b).length<=9223372036854775807/\k (.view tb.nx 0 (bs b).length 1 none) (tb.bD ⟨el+1000000,1,(af (bs b)).map .p⟩)
 |none=>False
def cvM(P:Program)(s d:TypeId)(tb:Tb)(k:AV->Tb->Prop):AV->Prop
 | .p (.sc (.string b))=>cvB P s d tb k b (dF P d)
 |_=>False
def xF(P:Program)(md:Bool)(s d:TypeId)(tb:Tb)(k:AV->Tb->Prop):AV->Prop
 | .view id f n z m=>if isStr P d=true then cvV P s d tb k (.view id f n z m)else cvG P s d tb k (.view id f n z m) id n (lk id tb.bx)
 |x=>if md=true then cvM P s d tb k x.nm else rM P s d (λy=>k y tb) x.nm
def VW(e:TypeId)(sz n:Nat)(tb:Tb)(k:AV->Tb->Prop):Option (List AV)->Prop
 |some zs=>k (.view tb.nx 0 n sz (some n)) (tb.bD ⟨e,sz,zs⟩)
 |none=>False
def VU(_t:TypeId)(n:Nat)(tb:Tb)(k:AV->Tb->Prop)(ps:List (Nat×AV)):Option (TypeId×Nat×Nat)->Prop
 |some (e,sz,_)=>0<sz/\bW 0 ps=true/\ps.length=n/\n*sz<=16777216/\VW e sz n tb k (rI sz (ps.map (·.2)))
 |none=>False
def Ab(P:Program)(t:TypeId)(n:Nat)(tb:Tb)(k:AV->Tb->Prop)(ps:List (Nat×AV)):Option (List PC)->Prop
 |some _=>DX P t n (aaG P t n tb k) ps
 |none=>VU t n tb k ps (dF P t)
def C7(n:Nat)(tb:Tb)(k:AV->Tb->Prop)(ps:List (Nat×AV)):Option (TypeId×Nat×Nat)->Prop
 |some (_,sz,_)=>0<sz/\bW 0 ps=true/\ps.length=n/\n*sz<=16777216/\∃ys a_,Gz tb a_ (ps.map (·.2)) ys/\(∀y∈ys,y.width=sz)/\(∀y∈ys,cE y=true)/\k (.full ys) a_
 |none=>False
def VT(P:Program)(t:TypeId)(n:Nat)(tb:Tb)(k:AV->Tb->Prop)(q:Prop)(ps:List (Nat×AV)):Option (List PC)->Prop
 |some _=>q
 |none=>C7 n tb k ps (dF P t)
def slC(tb:Tb)(k:AV->Tb->Prop)(id m sz:Nat):Option (List PC)->Prop
 |some zs=>sz=m/\zs.length=m/\0<m/\m<=maxLen/\k (.full zs) ⟨del id tb.bx,tb.rw,tb.nx+1⟩
 |none=>False
def slO(tb:Tb)(k:AV->Tb->Prop)(id:Nat):Option Ob->Option (Nat×Nat×Bool)->Prop
 |some ob,some (m,s,_)=>s=1/\slC tb k id m ob.sz (fS ob.xs)
 |_,_=>False
def slT(P:Program)(t:TypeId)(tb:Tb)(k:AV->Tb->Prop)(q:Prop):AV->Prop
 | .obj id off=>off=0/\slO tb k id (lk id tb.bx) (kZ P t)
 |_=>q
def clO(tb:Tb)(k:AV->Tb->Prop)(id n s:Nat):Option Ob->Prop
 |some ob=>ob.sz=s/\k (.view tb.nx 0 n s (some n)) ((tb.cV id).bD ⟨ob.el,ob.sz,ob.xs.take (n*s)⟩)
 |none=>False
def EO(P:Program)(t:TypeId)(tb:Tb)(k:AV->Tb->Prop):AV->AV->AV->Prop
 | .p (.sc (.int _ h)),.p (.sc (.int _ m)),.view id f n s _=>aO P t=some s/\f=0/\h=(n:Int)/\m=(n:Int)/\clO tb k id n s (lk id tb.bx)
 |_,_,_=>False
def mX(P:Program)(md:Bool)(op:Op)(e:Operand->AV)(tb:Tb)(k:AV->Tb->Prop):Prop:=match op with
 | .box t x=>if md=true then LQ P t tb k (e x)else jq P (.box t x) e λy=>k y tb
 | .alloc t=>G0 P tb k (bX P t) t
 | .buildSlice t n ps=>if md=true then Ab P t n tb k (gi e ps) (fS ((gi e ps).map λp=>p.2.nm))else VT P t n tb k (jq P (.buildSlice t n ps) e λy=>k y tb) (gi e ps) (fS ((gi e ps).map λp=>p.2.nm))
 | .slice t x none none none=>slT P t tb k (jq P (.slice t x none none none) e λy=>k y tb) (e x)
 | .slice t x none (some hi) (some mx)=>if md=true then EO P t tb k (e hi).nm (e mx).nm (e x)else jq P (.slice t x none (some hi) (some mx)) e λy=>k y tb
 | .convert s d x=>xF P md s d tb k (e x)
 | .load t x=>loadT P t tb k (e x)
 | .store t x y=>storeT P t tb k (e x) (e y)
 | .makeSlice t x y=>if md=true then mkP P tb k (e x).nm (e y).nm (dF P t)else mkT P tb k (e x).nm (e y).nm (dF P t)
 | .call c=>match c.callee with
  | .builtin .append=>c.args.size=2/\c.argTypes.size=2/\D4 P md (c.argTypes.getD 1 0) tb k (dF P (c.argTypes.getD 0 0)) (e (c.args.getD 0 (.tmp 0))) (e (c.args.getD 1 (.tmp 0)))
  | .builtin .copy=>c.args.size=2/\c.argTypes.size=2/\cpT tb k (aO P (c.argTypes.getD 0 0)) (e (c.args.getD 0 (.tmp 0))) (e (c.args.getD 1 (.tmp 0)))
  | .builtin .clear=>c.args.size=1/\c.argTypes.size=1/\clT P tb k (e (c.args.getD 0 (.tmp 0))) (dF P (c.argTypes.getD 0 0))
  | .value f=>Ac P (c.args.toList.map e) tb k (e f).nm
  | .invoke x name=>QF P name (c.args.toList.map e) tb k (e x)
  |_=>jq P (.call c) e λy=>k y tb
 |op=>jq P op e λy=>k y tb
section
variable{P:Program}{st:AS}{o:Oper}
theorem Oq{c:Call}{f:Operand}{gf:FuncId}{caps:List PC}{ys:List AV}{ts ts':Tb}{r:AV}(ho:o.op= .call c)(hc:c.callee= .value f)(hf:(bT st.sl f).nm= .p (.fn (.func gf) caps))(hx:toAll (c.args.toList.map (bT st.sl)) ys)(hp:dm P gf (ys++caps.map .p) ts r ts')(hb:aA st.tb.bx ts.bx)(hr:aA st.tb.rw ts.rw)(hn:ts.nx=st.tb.nx):eV P st o r (st.tb.merge ts ts'):=by
 intro w0 M0 F g a w hw hop K Q hK;have sG:∀y,y∈o.op.operands->bJ g (a.eval y) (bT st.sl y):=λy hy=>kN y λt e=>hop t (e▸hy);have h1:=cu (sG f (by grind [Op.operands,Call.operands]));rw[hf]at h1;have jS:=bO h1;generalize hv:a.eval f=v at jS;cases jS with
 |fn pU=>
  rename_i cv;have hargs:=k_ (g:=g) (a:=a) (sl:=st.sl) c.args.toList (λy hy=>sG y (by grind [Op.operands,Call.operands]));have hall:=(ig _ hargs hx).append (lY pU);have hrun:(execOp a.eval o).run P w= .ok (.enter gf ((c.args.toList.map a.eval)++cv).toArray) w:=by
   simp[execOp,ho,resolve,hc,hv,Deferred.ofValue,invoke,iH hp.1]
  unfold Oper.wp;rw[hrun];refine(hp.2 g w _ _ (hw.part hb hr hn) hall).mono ?_;rintro e' w' ⟨v',g',rfl,hle,hS,hr'⟩;exact hK v' w' g' hle (hw.back hb hr hle hS) hr'
theorem Ot{c:Call}{f:Operand}{gf:FuncId}{xs ys:List AV}{ts ts':Tb}{r:AV}(ho:o.op= .call c)(hc:c.callee= .value f)(hf:((bT st.sl f).nm= .mB (.func gf) xs/\toAll (c.args.toList.map (bT st.sl)++xs) ys)\/((bT st.sl f).nm= .pK (.func gf) xs/\toAll (xs++c.args.toList.map (bT st.sl)) ys))(hp:dm P gf ys ts r ts')(hb:aA st.tb.bx ts.bx)(hr:aA st.tb.rw ts.rw)(hn:ts.nx=st.tb.nx):eV P st o r (st.tb.merge ts ts'):=by
 intro w0 M0 F g a w hw hop K Q hK;have sG:∀y,y∈o.op.operands->bJ g (a.eval y) (bT st.sl y):=λy hy=>kN y λt e=>hop t (e▸hy);have h1:=cu (sG f (by grind [Op.operands,Call.operands]));have hargs:=k_ (g:=g) (a:=a) (sl:=st.sl) c.args.toList (λy hy=>sG y (by grind [Op.operands,Call.operands]));have key:∃us,aV g us ys/\(execOp a.eval o).run P w= .ok (.enter gf us.toArray) w:=by
  rcases hf with⟨hf,hx⟩|⟨hf,hx⟩
  .rw[hf]at h1;generalize hv:a.eval f=v at h1;cases h1 with
   |mB pU=>
    rename_i cv;exact⟨_,ig _ (hargs.append pU) hx,by simp[execOp,ho,resolve,hc,hv,Deferred.ofValue,invoke,iH hp.1]⟩
  .rw[hf]at h1;generalize hv:a.eval f=v at h1;cases h1 with
   |pK pU=>
    rename_i cv;exact⟨_,ig _ (pU.append hargs) hx,by simp[execOp,ho,resolve,hc,hv,Deferred.ofValue,invoke,iH hp.1]⟩
 obtain⟨us,hall,hrun⟩:=key;unfold Oper.wp;rw[hrun];refine(hp.2 g w _ _ (hw.part hb hr hn) hall).mono ?_;rintro e' w' ⟨v',g',rfl,hle,hS,hr'⟩;exact hK v' w' g' hle (hw.back hb hr hle hS) hr'
def WV{t:TypeId}{name:String}{gf:FuncId}{v:Value}{w:World}{n:Nat}(h:Dk P t name=some gf):(method (n+1) t v name).run P w= .ok (gf,v) w:=by
 unfold Dk at h;split at h
 .rename_i i hi;split at h
  .rename_i m e hm hu;split at h
   .rename_i hp;split at h
    .rename_i f hf;injection h with h;subst h;have alR:m.path.toList=[]:=by
      grind
     unfold method;simp only[Sem.run_bind,run_typeInfo (w:=w) hi,Result.andThen_ok,hm,alR,follow,Sem.run_pure,hf,receiverAt,run_underlying hu,Place.get]
    grind
   grind
  grind
 grind
theorem WW{c:Call}{x:Operand}{name:String}{t:TypeId}{av:AV}{gf:FuncId}{ys:List AV}{ts ts':Tb}{r:AV}(ho:o.op= .call c)(hc:c.callee= .invoke x name)(hf:bT st.sl x= .o_ t av)(hm:Dk P t name=some gf)(hx:toAll (av::c.args.toList.map (bT st.sl)) ys)(hp:dm P gf ys ts r ts')(hb:aA st.tb.bx ts.bx)(hr:aA st.tb.rw ts.rw)(hn:ts.nx=st.tb.nx):eV P st o r (st.tb.merge ts ts'):=by
 intro w0 M0 F g a w hw hop K Q hK;have sG:∀y,y∈o.op.operands->bJ g (a.eval y) (bT st.sl y):=λy hy=>kN y λt e=>hop t (e▸hy);have h1:=sG x (by grind [Op.operands,Call.operands]);rw[hf]at h1;generalize hv:a.eval x=v at h1;cases h1 with
 |o_ hrecv=>
  rename_i rv;have hargs:=k_ (g:=g) (a:=a) (sl:=st.sl) c.args.toList (λy hy=>sG y (by grind [Op.operands,Call.operands]));have hall:=ig _ (aV.cons hrecv hargs) hx;have hrun:(execOp a.eval o).run P w= .ok (.enter gf (rv::c.args.toList.map a.eval).toArray) w:=by
   have e1:#[Value.iface t rv]++Array.map a.eval c.args=(Value.iface t rv::c.args.toList.map a.eval).toArray:=by
    simp
   simp only[execOp,ho,resolve,hc,hv,Sem.run_bind,Sem.run_pure,Result.andThen_ok,invoke,e1];simp[callMethod,run_program,Made.depth,WV hm,iH hp.1]
   grind [gv]
  unfold Oper.wp;rw[hrun];refine(hp.2 g w _ _ (hw.part hb hr hn) hall).mono ?_;rintro e' w' ⟨v',g',rfl,hle,hS,hr'⟩;exact hK v' w' g' hle (hw.back hb hr hle hS) hr'
def zF{α:Type}{a:Array α}(h:a.size=2)(d:α):a=#[a.getD 0 d,a.getD 1 d]:=by
 match a,h with
 |⟨[x,y]⟩,_=>rfl
theorem Ou:∀{xs:List AV} {zs:List PC},fS xs=some zs->xs=zs.map .p
 |[],zs,h=>by grind [fS]
 |x::l,zs,h=>by
  cases x with
  |p x=>
   simp only[fS]at h;split at h
   .rename_i r hr;injection h with h;subst h;rw[dB,<-Ou hr]
   grind
  |_=>simp[fS]at h
def A2{md:Bool}{k:AV->Tb->Prop}(h:mX P md o.op (bT st.sl) st.tb k):∃x a_,k x a_/\eV P st o x a_:=by
 have ofQ:(jq P o.op (bT st.sl) λy=>k y st.tb)->∃x a_,k x a_/\eV P st o x a_:=λh=>by
  grind [GO,eV.ae9]
 unfold mX at h;split at h
 .grind [LQ,akD]
 .rename_i t ho;cases hz:bX P t with
  |none=>rw[hz]at h;exact h.elim
  |some zs=>rw[hz]at h;exact⟨_,_,h,ZS ho hz⟩
 .rename_i t n ps ho;split at h
  .have io:∀(l:List (Nat×Operand)) (k:Nat),bW k (l.map λp=>(p.1,bT st.sl p.2))=bW k l:=by
    intro l;induction l with
    |nil=>intro k;rfl
    |cons p l ih=>grind [bW]
   cases hal:fS ((gi (bT st.sl) ps).map λp=>p.2.nm)with
   |none=>
    rw[hal]at h;unfold Ab VU at h;simp only at h;split at h
    .rename_i e sz dQ ht;obtain⟨h1,h2,h3,h4,h⟩:=h;unfold VW at h
     grind [afp,gi,Function.comp_def]
    grind
   |some ys0=>
   rw[hal]at h;unfold Ab DX at h;simp only at h;split at h
   all_goals grind [aaG,akK,gi,Function.comp_def]
  .have io:∀(l:List (Nat×Operand)) (k:Nat),bW k (l.map λp=>(p.1,bT st.sl p.2))=bW k l:=by
    intro l;induction l with
    |nil=>intro k;rfl
    |cons p l ih=>grind [bW]
   cases hal:fS ((gi (bT st.sl) ps).map λp=>p.2.nm)with
   |some ys0=>rw[hal]at h;exact ofQ (by rw[ho];exact h)
   |none=>
    rw[hal]at h;simp only[VT]at h;unfold C7 at h
    grind [WG,gi,Function.comp_def,cE]
 .rename_i t x ho;unfold slT at h;split at h
  .rename_i id off hx;obtain⟨rfl,h⟩:=h;unfold slO at h;split at h
   .rename_i ob m s ag hl hA;obtain⟨rfl,h⟩:=h;unfold slC at h
    grind [Yv,Ou]
   grind
  grind
 .rename_i t x hi mx ho;split at h
  .unfold EO at h;split at h
   .rename_i k1 h' k2 m' id f n s c hh hm hx;obtain⟨h1,rfl,rfl,rfl,h⟩:=h;unfold clO at h
    grind [aep]
   grind
  grind
 .rename_i s d x ho;unfold xF at h;split at h
  .rename_i id f n z m hx;split at h
   .obtain⟨h1,h2,l,h3,h4⟩:=h
    grind [U2]
   .unfold cvG at h;split at h
    .rename_i ob hl;obtain⟨rfl,h2,h3,h4,h5,h6⟩:=h;exact⟨_,_,h6,U0 ho hx h2 hl h3 h4 h5⟩
    grind
  .split at h
   .unfold cvM at h;split at h
    .rename_i b hb;unfold cvB at h
     grind [Qb]
    grind
   .refine ofQ ?_;rw[ho];exact h
 .rename_i t x ho;unfold loadT at h;split at h
  .grind [U3]
  .refine ofQ ?_;rw[ho];exact h
 .rename_i t x y ho;unfold storeT at h
  grind [NK]
 .rename_i t x y ho;split at h
  .unfold mkP at h;split at h
   .rename_i e s dQ hel;split at h
    .rename_i kl n kc c hx hy;unfold VY at h
     grind [akN]
    grind
   grind
  .unfold mkT at h
   grind [akO]
 .rename_i c ho;split at h
  .rename_i hc;obtain⟨ha,ht,h⟩:=h;have ea:=zF ha (.tmp 0);have et:=zF ht 0;generalize c.args.getD 0 (.tmp 0)=x at*;generalize c.args.getD 1 (.tmp 0)=y at*;generalize c.argTypes.getD 0 0=t at*;generalize c.argTypes.getD 1 0=u at*;unfold D4 at h;split at h
   .rename_i id f n s m hx;unfold agn at h;split at h
    .rename_i e s' dQ hel;obtain⟨rfl,h⟩:=h;unfold QC at h;split at h
     .rename_i ob _ hl;obtain⟨h1,h2,h⟩:=h;unfold aaI at h;split at h
      .obtain⟨j,zs,h3,h4⟩:=GY h;rcases h3 with⟨h5,h⟩|⟨h5,h7,h8,h⟩
       all_goals grind [af0,aay]
      .obtain⟨j,zs,⟨rfl,h5,h7,h8,h⟩,h4⟩:=GY h
       grind [af1]
     .rename_i kd ob hu hl;obtain⟨h2,h⟩:=h;unfold QD at h
      grind [Vi,Z2]
     grind
    grind
   .rename_i hnv;split at h
    .unfold VZ at h;split at h
     .rename_i e s dQ hel;obtain⟨h1,h⟩:=h;have hx:bT st.sl x= .full []\/bT st.sl x= .p .nil:=by
       grind [isNone]
      unfold C8 at h;split at h
      .rename_i kd hu;unfold Jg at h
       grind [Vk]
      .obtain⟨j,zs,⟨h7,h8,h⟩,h4⟩:=GY h
       grind [af2]
     grind
    unfold Ap at h;split at h
    .rename_i e sz dQ hel;cases hX:JH st.tb.rw e sz (bT st.sl x)with
     |none=>rw[hX]at h;exact h.elim
     |some q=>
      obtain⟨fX,xs⟩:=q;rw[hX]at h;have hR:=E1 hX;unfold Rb at h;simp only at h;split at h
      .rename_i s hy;obtain⟨rfl,h1,h2,h3,h4,h⟩:=h;exact⟨_,_,h,EC ho hc ea et hel h1 h2 h3 h4 hy (by cases fX<;>exact hR)⟩
      .rename_i ys hy;obtain⟨h1,h2,h3,h4,h5,h6,h⟩:=h;exact⟨_,_,h,xq ho hc ea et hel h1 h2 h3 h4 h5 h6 (.inl hy) (by cases fX<;>exact hR)⟩
      .rename_i hy;obtain⟨h1,h2,h3,h4,h5,h6,h⟩:=h;exact⟨_,_,h,xq ho hc ea et hel h1 h2 h3 h4 h5 h6 (.inr ⟨rfl,hy⟩) (by cases fX<;>exact hR)⟩
      grind
    grind
  .rename_i hc;obtain⟨ha,ht,h⟩:=h;have ea:=zF ha (.tmp 0);have et:=zF ht 0;generalize c.args.getD 0 (.tmp 0)=x at*;generalize c.args.getD 1 (.tmp 0)=y at*;generalize c.argTypes.getD 0 0=t at*;generalize c.argTypes.getD 1 0=u at*;unfold cpT at h;split at h
   .rename_i id f n s m hx;obtain⟨h0,h⟩:=h;unfold cpO at h;split at h
    .rename_i ob hl;obtain⟨h1,h⟩:=h;have alS:x∈o.op.operands:=by grind [Op.operands,Call.operands]
     have Hl:lk id (st.tb.aY id {ob with xs:=bH (f*s) ob.xs}).bx=some {ob with xs:=bH (f*s) ob.xs}:=by simp[Tb.aY,bP]
     have hfl:f*s<=(bH (f*s) ob.xs).length:=by rw[jW];omega
     unfold cpP at h;split at h
     .rename_i id' f' n' s' m' hy;obtain⟨rfl,h⟩:=h;unfold cpG at h;split at h
      .rename_i lG hl';exact⟨_,_,h.2,adN alS hx hl h1 (aa7 (st:=⟨st.sl,_⟩) ho hc ea et hx Hl h1 h0 hfl hy hl' rfl h.1)⟩
      grind
     .split at h
      .rename_i ys hy;obtain⟨h3,h4,h⟩:=h;exact⟨_,_,h,adN alS hx hl h1 (aa8 (st:=⟨st.sl,_⟩) ho hc ea et hx Hl h1 h0 hfl hy rfl h3 h4)⟩
      grind
    grind
   grind
  .rename_i hc;obtain⟨ha,ht,h⟩:=h;have ea:=oV ha (.tmp 0);have et:=oV ht 0;generalize c.args.getD 0 (.tmp 0)=x at*;generalize c.argTypes.getD 0 0=t at*;unfold clT at h
   grind [Wz]
  .rename_i f hc;unfold Ac at h;split at h
   .rename_i gf caps hf;rcases h with⟨xs,hxs,r,h1,h2⟩|⟨ys,ts,r,ts',h1,h2,h3,h4,h5,h6⟩|⟨ys,r,n,h1,h2,h3,h4⟩|⟨rfl,⟨h1,h2,id,of,n,s,m,y,ob,h3,h4,h5,h6,UY,h7⟩|⟨xs,r,h1,h2,h3⟩⟩
    .exact⟨_,_,h2,eV.ae9 (S9 ho hc hf (by rw[<-hxs,jF];rfl) h1)⟩
    .grind [Oq]
    .grind [ZQ]
    .exact⟨_,_,h2,akA ho hc hf h1 h3 h4 h5 h6 UY h7⟩
    .exact⟨_,_,h3,akB ho hc hf h2 (by rw[<-h1,jF];rfl)⟩
   .rename_i gf xs hf;obtain⟨ys,ts,r,ts',h1,h2,h3,h4,h5,h6⟩:=h
    grind [Ot]
   .rename_i gf xs hf;obtain⟨ys,ts,r,ts',h1,h2,h3,h4,h5,h6⟩:=h;exact⟨_,_,h6,Ot ho hc (.inr ⟨hf,h1⟩) h2 h3 h4 h5⟩
   grind
  .rename_i x name hc;unfold QF at h;split at h
   .rename_i t av hf;unfold V1 at h;split at h
    .rename_i gf hm;obtain⟨ys,ts,r,ts',h1,h2,h3,h4,h5,h6⟩:=h
     grind [WW]
    grind
   grind
  grind
 grind
end
end Go.Av
