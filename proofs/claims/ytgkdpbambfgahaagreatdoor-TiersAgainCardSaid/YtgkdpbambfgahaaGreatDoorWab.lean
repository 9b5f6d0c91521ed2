/- TiersAgain, part 2: an abstract interpreter over any program's form, with its proof of soundness; no condition. -/
import Derived.Test.YtgkdpbambfgahaaGreatDoorWaa
set_option linter.all false
set_option maxRecDepth 100000
set_option maxHeartbeats 64000000
namespace Go.Av
open Go.RowKit
def Yy{M:Mem}{v:Value}{x:PC}(h:jc M v x):jc M v x.Yz:=by
 unfold PC.Yz;split
 .cases h;exact .dX
 omega
theorem BK{M:Mem}:∀{vs:List Value} {xs:List PC},dh M vs xs->dh M vs (xs.map PC.Yz)
 |_,_,.nil=> .nil
 |_,_,.cons h hs=> .cons (Yy h) (BK hs)
def KP{M:Mem}{v:Value}{x:PC}(h:jc M v x):jc M v x.wk:=by
 unfold PC.wk;split
 .cases h;exact .dX
 .cases h with
  |agg hs h1=>exact .agg (BK hs) h1
  |sE hs=>exact .sE (BK hs)
 omega
theorem MF{M:Mem}:∀{vs:List Value} {xs:List PC},dh M vs xs->dh M vs (xs.map PC.wk)
 |_,_,.nil=> .nil
 |_,_,.cons h hs=> .cons (KP h) (MF hs)
section
variable{P:Program}{sl:Nat->AV}{o:Oper}
def oV{α:Type}{a:Array α}(h:a.size=1)(d:α):a=#[a.getD 0 d]:=by
 match a,h with
 |⟨[x]⟩,_=>rfl
theorem ajS{c:Call}(ho:o.op= .call c)(hc:c.callee= .builtin .len)(h1:c.args.size=1)(h2:c.argTypes.size=1){k:AV->Prop}(hk:yj P (c.argTypes.getD 0 0) k (bT sl (c.args.getD 0 (.tmp 0))).nm):∃x,k x/\dy P sl o x:=by
 have ea:=oV h1 (.tmp 0);have et:=oV h2 0;generalize c.args.getD 0 (.tmp 0)=x at*;generalize c.argTypes.getD 0 0=t at*;have run:∀(a:Act) (w:World),(execOp a.eval o).run P w=((Builtin.len_ #[t] o.type #[a.eval x]).run P w).andThen λv w=> .ok (.value v) w:=λa w=>by
  simp only[execOp,ho,resolve,hc,ea,et,Sem.run_bind,Sem.run_pure,Result.andThen_ok,invoke,builtin,FH,dB,qN]
 have hop:x∈o.op.operands:=by grind [Op.operands,Call.operands]
 have S8:∀{v:Value} {M:Mem} {xs:List PC},jc M v (.sl xs)->∃a n c,v= .slice a n c/\n=xs.length:=λh=>by
  cases h with
  |dX=>simp
  |ug a=>simp
  |sl hn hc hm hsz hu h1c eM qu=>exact⟨_,_,_,rfl,by rw[<-hn,qu.length]⟩
 have aoj:∀(a:Option Addr) (n c:Nat) (w:World),(aO P t).isSome=true->(Builtin.len_ #[t] o.type #[.slice a n c]).run P w= .ok (.int .i64 n) w:=λa n c w h=>by
  obtain⟨s,hs⟩:=qt.1 h;unfold aO at hs;split at hs
  .rename_i e hU;simp[Builtin.len_,run_underlying hU,goInt]
  grind
 unfold yj at hk;split at hk
 .rename_i s hx;refine⟨_,hk.2,bY λw0 M0 F tb g a w hw h=>?_⟩;have e1:=h x hop;rw[hx]at e1;have e1:=bU e1;refine⟨.int .i64 (bs s).length,?_,.p (.sc _ rfl)⟩;rw[run,e1,nN];simp[Builtin.len_,run_underlying (nt hk.1),goInt]
 .rename_i hx;refine⟨_,hk.2,bY λw0 M0 F tb g a w hw h=>?_⟩;have e1:=h x hop;rw[hx]at e1;have e1:=bO e1;refine⟨.int .i64 0,?_,.p (.sc _ rfl)⟩;rw[run];generalize a.eval x=v at e1;cases e1;simp_all
 .rename_i xs hx;refine⟨_,hk.2,bY λw0 M0 F tb g a w hw h=>?_⟩;have e1:=h x hop;rw[hx]at e1;obtain⟨ad,n,c,e2,e3⟩:=S8 (bO e1);refine⟨.int .i64 xs.length,?_,.p (.sc _ rfl)⟩;simp_all
 grind
def HO{α β:Type}{f:α->β}{a:List α}{u v:β}(h:a.map f=[u,v]):∃x y,a=[x,y]/\f x=u/\f y=v:=by
 match a,h with
 |[x,y],h=>grind
theorem ajT{c:Call}{kd:IntKind}{m n:Int}(ho:o.op= .call c)(hc:c.callee= .builtin .min)(ha:c.args.toList.map (λy=>(bT sl y).nm)=[.p (.sc (.int kd m)),.p (.sc (.int kd n))]):dy P sl o (.p (.sc (.int kd (if n<m then n else m)))):=by
 obtain⟨x,y,e,hx,hy⟩:=HO ha;have ea:c.args=#[x,y]:=by grind
 refine bY λw0 M0 F tb g a w hw h=>?_;have e1:=h x (by grind [Op.operands,Call.operands]);rw[hx]at e1;have e2:=h y (by grind [Op.operands,Call.operands]);rw[hy]at e2;have e1:=bU e1;have e2:=bU e2;exact⟨.int kd (if n<m then n else m),by simp[execOp,ho,resolve,hc,ea,invoke,builtin,e1,e2,Builtin.min_,Builtin.min2],.p (.sc _ rfl)⟩
theorem ajU{c:Call}{kd:IntKind}{m n:Int}(ho:o.op= .call c)(hc:c.callee= .builtin .max)(ha:c.args.toList.map (λy=>(bT sl y).nm)=[.p (.sc (.int kd m)),.p (.sc (.int kd n))]):dy P sl o (.p (.sc (.int kd (if n>m then n else m)))):=by
 obtain⟨x,y,e,hx,hy⟩:=HO ha;have ea:c.args=#[x,y]:=by grind
 refine bY λw0 M0 F tb g a w hw h=>?_;have e1:=h x (by grind [Op.operands,Call.operands]);rw[hx]at e1;have e2:=h y (by grind [Op.operands,Call.operands]);rw[hy]at e2;have e1:=bU e1;have e2:=bU e2;exact⟨.int kd (if n>m then n else m),by simp[execOp,ho,resolve,hc,ea,invoke,builtin,e1,e2,Builtin.max_,Builtin.max2],.p (.sc _ rfl)⟩
theorem iH{f:FuncId}(h:eE P f)(args:Array Value)(w:World):(callFunc f args).run P w= .ok (.enter f args) w:=by
 obtain⟨fn,h1,h2,h3⟩:=h;simp only[callFunc,Sem.run_bind,run_program,Result.andThen_ok,h1,h2,h3,dZ,dc];rfl
theorem S9{c:Call}{f:Operand}{gf:FuncId}{caps xs:List PC}{r:PC}(ho:o.op= .call c)(hc:c.callee= .value f)(hf:(bT sl f).nm= .p (.fn (.func gf) caps))(hx:fS (c.args.toList.map λy=>(bT sl y).nm)=some xs)(hp:nc P gf (xs.map PC.wk++caps) r):dy P sl o (.p r):=by
 intro w0 M0 F tb g a w hw hop K Q hK;have sG:∀y,y∈o.op.operands->bJ g (a.eval y) ((bT sl y).nm):=λy hy=>cu (kN y λt e=>hop t (e▸hy));have h1:=sG f (by grind [Op.operands,Call.operands]);rw[hf]at h1;have jS:=bO h1;generalize hv:a.eval f=v at jS;cases jS with
 |fn pU=>
  rename_i cv;have hargs:=nT (g:=g) (a:=a) c.args.toList xs (λy hy=>sG y (by grind [Op.operands,Call.operands])) hx;have hall:=(MF hargs).append pU;have e:(c.args.map a.eval)=(c.args.toList.map a.eval).toArray:=by grind
  have hrun:(execOp a.eval o).run P w= .ok (.enter gf ((c.args.toList.map a.eval)++cv).toArray) w:=by
   simp[execOp,ho,resolve,hc,hv,Deferred.ofValue,invoke,iH hp.1]
  unfold Oper.wp;rw[hrun];refine(hp.2 g.M w _ hw.holds hall).mono ?_;rintro e' w' ⟨v',N,rfl,hr,hH,hM,hO,hB⟩;exact hK v' w' N hM (hw.later hM hH hO hB) (.p hr)
def o9{lo:Option AV}{d l:Nat}:rW d lo=some l->rX lo->match lo with|none=>l=d|some (.p (.sc (.int _ i)))=>i=(l:Int)|_=>False:=by
 grind [rW,rX]
theorem ajV{t:TypeId}{x:Operand}{i id off o' s:Nat}{ag:Bool}(ho:o.op= .fieldAddr t x i)(hx:bT sl x= .obj id off)(hf:dw P t i=some (o',s,ag))(hs:s≠0):dy P sl o (.obj id (off+o')):=eU λw0 M0 F tb g a w hw h=>by
 have h1:=h x (by simp[ho,Op.operands]);rw[hx]at h1;generalize hv:a.eval x=v at h1;cases h1 with
 |obj e=>
  rename_i b c;refine⟨.pointer (some ⟨b,off+o',none⟩),?_,.obj e⟩;unfold dw at hf;split at hf
  .rename_i fs hU;split at hf
   .rename_i f KQ;split at hf
    .rename_i s' a' hs' KO;injection hf with hf;obtain⟨rfl,rfl,rfl⟩:=U hf;simp[execOp,ho,hv,Instr.fieldAt,run_underlying hU,KQ,Instr.sureAddr,fieldPlace,run_sizeOf hs',hs,Addr.add_lit]
    grind
   grind
  grind
theorem ajW{t:TypeId}{x i:Operand}{id off m s:Nat}{kd:IntKind}{n:Int}{ag:Bool}(ho:o.op= .indexAddr t x i)(hx:bT sl x= .obj id off)(hi:(bT sl i).nm= .p (.sc (.int kd n)))(hf:kZ P t=some (m,s,ag))(h0:0<=n)(hn:n<(m:Int)):dy P sl o (.obj id (off+n.toNat*s)):=eU λw0 M0 F tb g a w hw h=>by
 have h1:=h x (by simp[ho,Op.operands]);rw[hx]at h1;have h2:=cu (h i (by simp[ho,Op.operands]));rw[hi]at h2;have HP:=bO h2;generalize hv:a.eval x=v at h1;generalize zJ:a.eval i=v2 at HP;cases HP;cases h1 with
 |obj e=>
  rename_i b c;refine⟨.pointer (some ⟨b,off+n.toNat*s,none⟩),?_,.obj e⟩;unfold kZ at hf;split at hf
  .rename_i m' e hU;split at hf
   .rename_i s' a' hs' KO;injection hf with hf;obtain⟨rfl,rfl,rfl⟩:=U hf;simp[execOp,ho,hv,zJ,Instr.indexAt,asIntOf,run_underlying hU,Instr.sureAddr,h0,hn,run_sizeOf hs',Addr.add_lit]
   grind
  grind
def wD{k:AV->Prop}(h:opW P o (bT sl) k):∃x,k x/\dy P sl o x:=by
 unfold opW Pa at h;split at h
 .grind [S_]
 .grind [S_]
 .rename_i c x y ho;unfold wE at h;grind [aeq]
 .rename_i t x ho;unfold Pb at h;grind [ajX]
 .rename_i t x ho;unfold zK at h;grind [aer]
 .rename_i t x i ho;unfold faO at h;split at h
  .grind [ajV]
  .unfold qO at h;grind [HQ]
 .rename_i t x i ho;unfold BL at h;grind [YA]
 .rename_i t x i ho;unfold gQ at h;grind [HR,KR]
 .rename_i t x i ho;unfold uY at h;grind [YB,KS]
 .rename_i t x lo hi ho;unfold iI at h;split at h
  .rename_i s hx;obtain⟨h1,h⟩:=h;unfold FI at h;split at h
   .rename_i l hh e1 e2;obtain⟨c1,c2,h4,h5,h6⟩:=h;exact⟨_,h6,Se ho hx h1 (o9 e1 c1) (o9 e2 c2) h4 h5⟩
   grind
  .rename_i xs hx;obtain⟨h1,hw,h⟩:=h;unfold FI at h;split at h
   .rename_i l hh e1 e2;obtain⟨c1,c2,h4,h5,h6⟩:=h;exact⟨_,h6,Sf ho hx h1 hw (o9 e1 c1) (o9 e2 c2) h4 h5⟩
   grind
  grind
 .rename_i op t x y t' ho;unfold bR at h;grind [XQ]
 .rename_i op t x ho;unfold wF at h;grind [ajY,ajZ,aj0]
 .rename_i s d x ho;unfold rM at h;grind [YC,Ta,Tc,Pc,Td]
 .rename_i t x ho;unfold uZ at h;split at h
  .grind [Te]
  .unfold Tf at h;grind [YD]
 .rename_i f fs cs ho;rcases h with⟨rfl,h⟩|⟨_,rfl,h⟩
  .unfold fnW at h;grind [aok,aj1]
  grind [aj2]
 .rename_i x i ho;unfold sH at h;grind [Pd]
 .rename_i x ho;unfold Tg at h;grind [aes,aeu]
 .rename_i t x ho;unfold saW at h;split at h
  .rename_i xs hx;unfold saA at h;grind [aj3]
  grind
 .rename_i c ho;split at h
  .grind [ajS]
  .rename_i hc;unfold KT at h;grind [ajT]
  .rename_i hc;unfold KU at h;grind [ajU]
  .grind
  .rename_i f hc;unfold yl at h;split at h
   .rename_i gf caps hf;split at h
    .rename_i xs hxs;obtain⟨r,h1,h2⟩:=h;grind [S9]
    grind
   grind
  grind
 grind
end
section
variable{P:Program}{w0:World}{M0:Mem}{F:Nat->Prop}{tb:Tb}{g:G}{w w':World}
theorem bP{α:Type}{t k:Nat}{v:α}{l:List (Nat×α)}:lk t ((k,v)::l)=if t=k then some v else lk t l:=rfl
theorem gC{b n cap c:Nat}(h:fO (.slice (some ⟨b,0,none⟩) n cap)=some c):c=b:=by
 grind [fO]
theorem ey{b n cap:Nat}(h:n<cap):fO (.slice (some ⟨b,0,none⟩) n cap)=some b:=by grind [fO]
theorem iW{a:Option Addr}{n:Nat}:fO (.slice a n n)=none:=by cases a<;>simp[fO]
def bf.sub{a_:Tb}(h:bf w0 M0 F tb g w)(hb:∀i o,lk i a_.bx=some o->lk i tb.bx=some o)(hr:∀i r,lk i a_.rw=some r->lk i tb.rw=some r)(hn:tb.nx<=a_.nx):bf w0 M0 F a_ g w:=⟨h.holds,h.keep,h.old,h.HC,λi o e=>h.boxes i o (hb i o e),λi el sz e=>h.rows i el sz (hr i _ e),λi j o p b c b' c' e1 e2=>h.iC i j o p b c b' c' (hb i o e1) (hb j p e2),λi j r s u v b e1 e2=>h.jA i j r s u v b (hr i r e1) (hr j s e2),λi j o r b c v e1 e2=>h.gS i j o r b c v (hb i o e1) (hr j r e2),λi hi=>h.fresh i (cT hn hi)⟩
def bf.SK(h:bf w0 M0 F tb g w){i:Nat}{o:Ob}{b c:Nat}(e:lk i tb.bx=some o)(hb:g.ob i=some (b,c))(hc:0<c):b<w.heap.size:=by
 obtain⟨cur,_,_,⟨_,_,h4,_⟩,_⟩:=(h.boxes i o e).real hb hc
 grind
def bf.MA(h:bf w0 M0 F tb g w){i:Nat}{r:TypeId×Nat}{v:Value}{b:Nat}(e:lk i tb.rw=some r)(hv:g.rv i=some v)(hb:fO v=some b):b<w.heap.size:=by
 obtain⟨v',h1,h2⟩:=h.rows i r.1 r.2 e;rw[h1]at hv;injection hv with hv;subst hv;rcases h2 with⟨a,n,rfl⟩|⟨b',n,cap,cur,rfl,_,⟨_,_,h3,_⟩,_⟩
 .cases a<;>simp[fO]at hb
 grind [fO]
def bf.Eb(h:bf w0 M0 F tb g w){i:Nat}{p:Nat×Nat}(e:g.ob i=some p):i<tb.nx:=by
 rcases iD i tb.nx with h'|h'
 .omega
 .rw[(h.fresh i h').1]at e;grind
def bf.pO(h:bf w0 M0 F tb g w){i:Nat}{v:Value}(e:g.rv i=some v):i<tb.nx:=by
 rcases iD i tb.nx with h'|h'
 .omega
 .rw[(h.fresh i h').2]at e;grind
def G.eN(g:G)(n b c:Nat):G:={g with ob:=λi=>if i=n then some (b,c)else g.ob i}
def G.ez(g:G)(n:Nat)(v:Value):G:={g with rv:=λi=>if i=n then some v else g.rv i}
def Tb.bD(tb:Tb)(o:Ob):Tb:=⟨(tb.nx,o)::tb.bx,tb.rw,tb.nx+1⟩
def Tb.cC(tb:Tb)(el:TypeId)(sz:Nat):Tb:=⟨tb.bx,(tb.nx,el,sz)::tb.rw,tb.nx+1⟩
def Tb.su(tb:Tb)(id:Nat):Tb:={tb with rw:=del id tb.rw}
def Tb.cV(tb:Tb)(id:Nat):Tb:={tb with bx:=del id tb.bx}
def Tb.aY(tb:Tb)(id:Nat)(o:Ob):Tb:={tb with bx:=(id,o)::del id tb.bx}
theorem bf.su(h:bf w0 M0 F tb g w)(id:Nat):bf w0 M0 F (tb.su id) g w:=h.sub (λ_ _ e=>e) (λi r e=>by grind [Tb.su,cQ]) (aX _)
theorem bf.cV(h:bf w0 M0 F tb g w)(id:Nat):bf w0 M0 F (tb.cV id) g w:=h.sub (λi r e=>by grind [Tb.cV,cQ]) (λ_ _ e=>e) (aX _)
def bf.nP(h:bf w0 M0 F tb g w)(b c:Nat):g.le (g.eN tb.nx b c):=⟨Mem.le_refl _,λi p e=>by have:=h.Eb e;grind [G.eN],λ_ _ e=>e⟩
def bf.DF(h:bf w0 M0 F tb g w)(v:Value):g.le (g.ez tb.nx v):=⟨Mem.le_refl _,λ_ _ e=>e,λi p e=>by have:=h.pO e;grind [G.ez]⟩
def bf.SL(h:bf w0 M0 F tb g w){cur:Array Value}{o:Ob}{c:Nat}(hB:Below w.heap.size w w')(hb:∃t fz,w'.heap[w.heap.size]?=some (.cells cur t fz)/\Xx o.el t cur.size fz)(hs:cur.size=c*o.sz)(hc:c<=maxLen)(hl:o.xs.length<=cur.size)(hr:aV g (cur.toList.take o.xs.length) o.xs)(h1:∀v∈cur.toList,v.oneCell'=true):bf w0 M0 F (tb.bD o) (g.eN tb.nx w.heap.size c) w':=by
 have hH:iO w' g.M:=⟨λb o v e=>by
  have hlt:=h.holds.lt e;rw[hB.cell (p:=⟨b,o,none⟩) hlt];exact h.holds b o v e,h.holds.g⟩
 have hl':=h.later (Mem.le_refl _) hH (λ_ _=>rfl) hB;have hle:=h.nP w.heap.size c;have hold:∀i p,lk i tb.bx=some p->i≠tb.nx:=λi p e=>by
  obtain⟨b,c,e1,_⟩:=h.boxes i p e;have:=h.Eb e1;omega
 have hM0:∀off,g.M w.heap.size off=none:=λoff=>by
  cases e:g.M w.heap.size off with
  |none=>rfl
  |some v=>have:=h.holds.lt e;omega
 refine⟨hH,hl'.keep,hl'.old,hl'.HC,λi p e=>?_,λi el sz e=>?_,?_,?_,?_,?_⟩
 .simp only[Tb.bD,bP]at e;split at e
  .rename_i e';injection e with e;subst e;subst e';refine⟨w.heap.size,c,by simp[G.eN],λ_=>⟨cur,.inl h.keep.size,hM0,hb,qI hs.symm,hc,hl,hr.mono hle,h1⟩,λh0=>?_⟩;simp_all
  .rename_i e';obtain⟨b,c',e1,hr',h0⟩:=hl'.boxes i p e;refine⟨b,c',by simp only[G.eN];rw[ah e'];exact e1,λYb=>?_,h0⟩;obtain⟨cur',e2,e3,e4,e5,e6,e7,e8,e9⟩:=hr' Yb;exact⟨cur',e2,e3,e4,e5,e6,e7,e8.mono hle,e9⟩
 .obtain⟨v,e1,e2⟩:=hl'.rows i el sz e;exact⟨v,e1,e2⟩
 .intro i j p q b c1 b' c2 e1 e2 hij e3 e4 p1 p2;simp only[Tb.bD,bP]at e1 e2;simp only[G.eN]at e3 e4;split at e1
  .rename_i hi;rw[ai hi]at e3;injection e3 with e3;injection e3 with e3 _;subst e3;split at e2
   .omega
   .rename_i hj;rw[ah hj]at e4;have:=h.SK e2 e4 p2;omega
  .rename_i hi;rw[ah hi]at e3;split at e2
   .rename_i hj;rw[ai hj]at e4;injection e4 with e4;injection e4 with e4 _;subst e4;have:=h.SK e1 e3 p1;omega
   .rename_i hj;rw[ah hj]at e4;exact h.iC i j p q b c1 b' c2 e1 e2 hij e3 e4 p1 p2
 .exact h.jA
 .intro i j p r b c1 v e1 e2 e3 e4 p1 e5;simp only[Tb.bD,bP]at e1;simp only[G.eN]at e3;split at e1
  .rename_i hi;rw[ai hi]at e3;injection e3 with e3;injection e3 with e3 _;subst e3;have:=h.MA e2 e4 e5;omega
  .rename_i hi;rw[ah hi]at e3;exact h.gS i j p r b c1 v e1 e2 e3 e4 p1 e5
 .intro i hi;simp only[Tb.bD]at hi;have:=h.fresh i O
  grind [G.eN]
def bf.Ec(h:bf w0 M0 F tb g w){cur:Array Value}{o:Ob}{c:Nat}(hB:Below w.heap.size w w')(hb:w'.heap[w.heap.size]?=some (.cells cur o.el (0,0)))(hs:cur.size=c*o.sz)(hc:c<=maxLen)(hl:o.xs.length<=cur.size)(hr:aV g (cur.toList.take o.xs.length) o.xs)(h1:∀v∈cur.toList,v.oneCell'=true):bf w0 M0 F (tb.bD o) (g.eN tb.nx w.heap.size c) w':=h.SL hB ⟨_,_,hb,.inl ⟨rfl,rfl⟩⟩ hs hc hl hr h1
def bf.ajM(h:bf w0 M0 F tb g w){cur:Array Value}{el sz n cap:Nat}(hB:Below w.heap.size w w')(hb:w'.heap[w.heap.size]?=some (.cells cur el (0,0)))(hs:cur.size=cap*sz)(hn:n<=cap)(hc:cap<=maxLen)(hsz:0<sz):let N:=g.M.ext w.heap.size (cur.toList.take (n*sz));bf w0 M0 F (tb.cC el sz) ((g.with N).ez tb.nx (.slice (some ⟨w.heap.size,0,none⟩) n cap)) w'/\g.M.le N/\At N w.heap.size 0 (cur.toList.take (n*sz)):=by
 intro N;have hM:g.M.le N:=λb o v e=>by
  have:=h.holds.lt e;show(if b=w.heap.size then _ else _)=_;grind
 have hO:∀b,b<w.heap.size->N b=g.M b:=λb hb'=>by funext o;show(if b=w.heap.size then _ else _)=_;grind
 have eM:At N w.heap.size 0 (cur.toList.take (n*sz)):=λj v e=>by show(if w.heap.size=w.heap.size then _ else _)=_;grind
 have hH:iO w' N:=⟨λb o v e=>by
  by_cases hbw:b=w.heap.size
  .subst hbw;have e':(cur.toList.take (n*sz))[o]?=some v:=by
    have e2:(if w.heap.size=w.heap.size then(cur.toList.take (n*sz))[o]? else g.M w.heap.size o)=some v:=e
    grind
   grind [World.cell?]
  .have e':g.M b o=some v:=by
    have e2:(if b=w.heap.size then(cur.toList.take (n*sz))[o]? else g.M b o)=some v:=e
    grind
   have hlt:=h.holds.lt e';rw[hB.cell (p:=⟨b,o,none⟩) hlt];exact h.holds b o v e',h.holds.g.mono hM⟩
 have hl':=h.later hM hH hO hB;have hle:=hl'.DF (.slice (some ⟨w.heap.size,0,none⟩) n cap);refine⟨⟨hH,hl'.keep,hl'.old,hl'.HC,λi p e=>?_,λi el' sz' e=>?_,?_,?_,?_,?_⟩,hM,eM⟩
 .obtain⟨b,c',e1,hr',h0⟩:=hl'.boxes i p e;refine⟨b,c',e1,λYb=>?_,h0⟩;obtain⟨cur',e2,e3,e4,e5,e6,e7,e8,e9⟩:=hr' Yb;exact⟨cur',e2,e3,e4,e5,e6,e7,e8.mono hle,e9⟩
 .simp only[Tb.cC,bP]at e;split at e
  .rename_i e';subst e';injection e with e;injection e with e1 e2;subst e1;subst e2;refine⟨.slice (some ⟨w.heap.size,0,none⟩) n cap,by simp[G.ez],?_⟩;rcases iD n cap with hlt|hge
   case inr=>grind
   refine .inr ⟨w.heap.size,n,cap,cur,rfl,.inl h.keep.size,⟨_,_,hb,.inl ⟨rfl,rfl⟩⟩,qI hs.symm,hlt,hc,hsz,eM,?_⟩;intro o v e;have e2:(if w.heap.size=w.heap.size then(cur.toList.take (n*sz))[o]? else g.M w.heap.size o)=some v:=e
   grind
  .rename_i e';obtain⟨v,e1,e2⟩:=hl'.rows i el' sz' e;exact⟨v,by grind [G.ez],e2⟩
 .exact h.iC
 .intro i j r s u v b e1 e2 hij e3 e4 e5;simp only[Tb.cC,bP]at e1 e2;simp only[G.ez]at e3 e4;split at e1
  .rename_i hi;rw[ai hi]at e3;injection e3 with e3;subst e3;obtain rfl:=gC e5;split at e2
   .omega
   .rename_i hj;rw[ah hj]at e4;intro e6;have:=h.MA e2 e4 e6;omega
  .rename_i hi;rw[ah hi]at e3;have hlt:=h.MA e1 e3 e5;split at e2
   .grind [gC]
   .rename_i hj;rw[ah hj]at e4;exact h.jA i j r s u v b e1 e2 hij e3 e4 e5
 .intro i j p r b c1 v e1 e2 e3 e4 p1;simp only[Tb.cC,bP]at e2;simp only[G.ez]at e4;have hlt:=h.SK e1 e3 p1;split at e2
  .grind [gC]
  .rename_i hj;rw[ah hj]at e4;exact h.gS i j p r b c1 v e1 e2 e3 e4 p1
 .intro i hi;simp only[Tb.cC]at hi;have:=h.fresh i O;simp only[G.ez];rw[ah O];exact this
def bf.yb(h:bf w0 M0 F tb g w)(el sz:Nat)(a:Option Addr)(m:Nat):bf w0 M0 F (tb.cC el sz) (g.ez tb.nx (.slice a m m)) w:=by
 have hle:=h.DF (.slice a m m);refine⟨h.holds,h.keep,h.old,h.HC,λi p e=>?_,λi el' sz' e=>?_,h.iC,?_,?_,?_⟩
 .obtain⟨b,c',e1,hr',h0⟩:=h.boxes i p e;refine⟨b,c',e1,λYb=>?_,h0⟩;obtain⟨cur',e2,e3,e4,e5,e6,e7,e8,e9⟩:=hr' Yb;exact⟨cur',e2,e3,e4,e5,e6,e7,e8.mono hle,e9⟩
 .simp only[Tb.cC,bP]at e;split at e
  .rename_i e';subst e';exact⟨.slice a m m,by simp[G.ez],.inl ⟨a,m,rfl⟩⟩
  .rename_i e';obtain⟨v,e1,e2⟩:=h.rows i el' sz' e;exact⟨v,by grind [G.ez],e2⟩
 .intro i j r s u v b e1 e2 hij e3 e4 e5;simp only[Tb.cC,bP]at e1 e2;simp only[G.ez]at e3 e4;split at e1
  .grind [iW]
  .rename_i hi;rw[ah hi]at e3;split at e2
   .grind [iW]
   .rename_i hj;rw[ah hj]at e4;exact h.jA i j r s u v b e1 e2 hij e3 e4 e5
 .intro i j p r b c1 v e1 e2 e3 e4 p1;simp only[Tb.cC,bP]at e2;simp only[G.ez]at e4;split at e2
  .grind [iW]
  .rename_i hj;rw[ah hj]at e4;exact h.gS i j p r b c1 v e1 e2 e3 e4 p1
 .intro i hi;simp only[Tb.cC]at hi;have:=h.fresh i O
  grind [G.ez]
theorem lO{b:Nat}{cur':Array Value}(k:Nat)(h:k≠b):(w.setRow b cur').heap[k]?=w.heap[k]?:=setRow_other w b k cur' h
def bf.aco(h:bf w0 M0 F tb g w){id b c:Nat}{o o':Ob}{cur cur':Array Value}(e:lk id tb.bx=some o)(hg:g.ob id=some (b,c))(hc0:0<c){tt tt':TypeId}{fz fz':Nat×Nat}(hb:w.heap[b]?=some (.cells cur tt fz))(ho1:w'.os=w.os)(ho2:w'.tape=w.tape)(ho3:w'.output=w.output)(ho4:w'.heap.size=w.heap.size)(ajN:∀k,k≠b->w'.heap[k]?=w.heap[k]?)(hb':w'.heap[b]?=some (.cells cur' tt' fz'))(hs:cur'.size=cur.size)(hel:Xx o.el tt cur.size fz->Xx o'.el tt' cur'.size fz')(hsz:o'.sz=o.sz)(hl:o'.xs.length<=cur'.size)(hr:aV g (cur'.toList.take o'.xs.length) o'.xs)(h1:∀v∈cur'.toList,v.oneCell'=true):bf w0 M0 F (tb.aY id o') g w':=by
 obtain⟨aof,e2,e3,⟨tt1,fz1,e4,efz⟩,e5,e6,_⟩:=(h.boxes id o e).real hg hc0;rw[hb]at e4;injection e4 with e4;injection e4 with e4 e4t DG;subst e4;subst DG;subst e4t;have hne:∀i p b' c',lk i tb.bx=some p->i≠id->g.ob i=some (b',c')->0<c'->b'≠b:=λi p b' c' e' hi hg' hp=>h.iC i id p o b' c' b c e' e hi hg' hg hp hc0;refine⟨⟨λb' off v em=>?_,h.holds.g⟩,⟨ho1.trans h.keep.os,ho2.trans h.keep.tape,ho3.trans h.keep.output,by rw[ho4];exact h.keep.size,λk hk hf=>?_⟩,h.old,h.HC,λi p ei=>?_,λi el sz ei=>?_,?_,h.jA,?_,h.fresh⟩
 .have hbb:b'≠b:=λhh=>by grind
  have:=World.cell?_of_block (w:=w) (w':=w') (a:=⟨b',off,none⟩) (ajN b' hbb);rw[this];exact h.holds b' off v em
 .have hkb:k≠b:=λhh=>by
   grind
  rw[ajN k hkb];exact h.keep.block k hk hf
 .simp only[Tb.aY,bP]at ei;split at ei
  .rename_i hi;subst hi;injection ei with ei;subst ei;exact⟨b,c,hg,λ_=>⟨cur',e2,e3,⟨tt',fz',hb',hel efz⟩,by grind,e6,hl,hr,h1⟩,λh0=>O⟩
  .rename_i hi;rw[cQ,ah hi]at ei;obtain⟨b1,c1,f1,fr,f0⟩:=h.boxes i p ei;refine⟨b1,c1,f1,λhp=>?_,f0⟩
   grind
 .obtain⟨v,f1,f2⟩:=h.rows i el sz ei;refine⟨v,f1,f2.imp (λh=>h) ?_⟩;rintro⟨b1,n,cap,uU,f3,f4,f5,f6,f7,f8,f9,f10,f11⟩;have:b1≠b:=λhh=>h.gS id i o _ b c v e ei hg f1 hc0 (by grind [ey]);exact⟨b1,n,cap,uU,f3,f4,by grind,f6,f7,f8,f9,f10,f11⟩
 .intro i j p q b1 c1 b2 c2 ei ej hij;simp only[Tb.aY,bP]at ei ej;have toOld:∀i p,(if i=id then some o' else lk i (del id tb.bx))=some p->∃p',lk i tb.bx=some p':=λi p ei=>by
   grind [cQ]
  obtain⟨p',ep⟩:=toOld i p ei;obtain⟨q',eq⟩:=toOld j q ej;exact h.iC i j p' q' b1 c1 b2 c2 ep eq hij
 .intro i j p r b1 c1 v ei ej;simp only[Tb.aY,bP]at ei;split at ei
  .rename_i hi;subst hi;exact h.gS i j o r b1 c1 v e ej
  .rename_i hi;rw[cQ,ah hi]at ei;exact h.gS i j p r b1 c1 v ei ej
theorem bf.aY(h:bf w0 M0 F tb g w){id b c:Nat}{o o':Ob}{cur cur':Array Value}(e:lk id tb.bx=some o)(hg:g.ob id=some (b,c))(hc0:0<c){tt:TypeId}{fz:Nat×Nat}(hb:w.heap[b]?=some (.cells cur tt fz))(hs:cur'.size=cur.size)(hel:o'.el=o.el)(hsz:o'.sz=o.sz)(hl:o'.xs.length<=cur'.size)(hr:aV g (cur'.toList.take o'.xs.length) o'.xs)(h1:∀v∈cur'.toList,v.oneCell'=true):bf w0 M0 F (tb.aY id o') g (w.setRow b cur'):=by
 exact h.aco e hg hc0 hb rfl rfl rfl (setRow_size _ _ _) (λk hk=>lO k hk) (setRow_heap w b cur cur' tt fz hb) hs (λq=>by grind) hsz hl hr h1
def bf.ad_(h:bf w0 M0 F tb g w){id b n n' cap el sz:Nat}{cur cur':Array Value}(e:lk id tb.rw=some (el,sz))(hg:g.rv id=some (.slice (some ⟨b,0,none⟩) n cap)){tt:TypeId}{fz:Nat×Nat}(hb:w.heap[b]?=some (.cells cur tt fz))(hs:cur'.size=cur.size)(hsame:∀j,j<n*sz->cur'[j]?=cur[j]?)(hn:n<=n')(hn':n'<=cap)(hlt:n<cap):let N:Mem:=λb' o=>if b'=b then(cur'.toList.take (n'*sz))[o]? else g.M b' o;bf w0 M0 F ((tb.su id).cC el sz) ((g.with N).ez tb.nx (.slice (some ⟨b,0,none⟩) n' cap)) (w.setRow b cur')/\g.M.le N/\At N b 0 (cur'.toList.take (n'*sz)):=by
 intro N;obtain⟨v,e1,e2⟩:=h.rows id el sz e;rw[hg]at e1;injection e1 with e1;subst e1;rcases e2 with⟨a,m,e2⟩|⟨b0,n0,aq5,aof,e2,e3,⟨tt',fz',e4,efz⟩,e5,e6,e7,e8,e9,O5⟩
 .grind
 injection e2 with e2 e2' aog;injection e2 with e2;injection e2 with e2;subst e2;subst e2';subst aog;rw[hb]at e4;injection e4 with e4;injection e4 with e4 e4t DG;subst e4;subst DG;subst e4t;have hle:n*sz<=n'*sz:=yc _ hn;have hbw:(w.setRow b cur').heap[b]?=some (.cells cur' tt fz):=setRow_heap w b cur cur' tt fz hb;have hM:g.M.le N:=λb' o v em=>by
  show(if b'=b then _ else _)=_;split
  .rename_i hbb;subst hbb;have ho:=O5 o v em;have hc:=h.holds b' o v em
   grind [World.cell?]
  omega
 have eM:At N b 0 (cur'.toList.take (n'*sz)):=λj v ej=>by grind
 have hNo:∀b',b'≠b->N b'=g.M b':=λb' hb'=>by grind
 have SM:(g.with N).le ((g.with N).ez tb.nx (.slice (some ⟨b,0,none⟩) n' cap)):=⟨Mem.le_refl _,λ_ _ e=>e,λi p e=>by have:=h.pO e;grind [G.ez]⟩;refine⟨⟨⟨λb' o v em=>?_,h.holds.g.mono hM⟩,⟨h.keep.os,h.keep.tape,h.keep.output,by rw[setRow_size];exact h.keep.size,λk hk hf=>?_⟩,λk hk hf=>?_,h.HC.trans hM,λi p ei=>?_,λi el' sz' ei=>?_,h.iC,?_,?_,?_⟩,hM,eM⟩
 .by_cases hbb:b'=b
  .subst hbb;have em':(cur'.toList.take (n'*sz))[o]?=some v:=by
    have e2:(if b'=b' then(cur'.toList.take (n'*sz))[o]? else g.M b' o)=some v:=em
    grind
   grind [World.cell?]
  .have em':g.M b' o=some v:=by rw[<-hNo b' hbb];exact em
   have:=World.cell?_of_block (w:=w) (w':=w.setRow b cur') (a:=⟨b',o,none⟩) (lO b' hbb);rw[this];exact h.holds b' o v em'
 .have hkb:k≠b:=λhh=>by
   grind
  rw[lO k hkb];exact h.keep.block k hk hf
 .have hkb:k≠b:=λhh=>by
   grind
  show N k=M0 k;rw[hNo k hkb];exact h.old k hk hf
 .obtain⟨b1,c1,f1,fr,f0⟩:=h.boxes i p ei;refine⟨b1,c1,f1,λhp=>?_,f0⟩;obtain⟨uU,f2,f3,f4,f5,f6,f7,f8,f9⟩:=fr hp;have:b1≠b:=λhh=>h.gS i id p _ b1 c1 _ ei e f1 hg hp (by grind [ey]);exact⟨uU,f2,λoff=>by show N b1 off=none;grind,by grind [lO],f5,f6,f7,(f8.mono (G.qJ hM)).mono SM,f9⟩
 .simp only[Tb.cC,Tb.su,bP]at ei;split at ei
  .rename_i hi;subst hi;injection ei with ei;injection ei with ei1 ei2;subst ei1;subst ei2;refine⟨.slice (some ⟨b,0,none⟩) n' cap,by simp[G.ez],?_⟩;rcases iD n' cap with hlt'|hge
   case inr=>grind
   refine .inr ⟨b,n',cap,cur',rfl,?_,⟨tt,fz,hbw,by grind⟩,O,hlt',e7,e8,eM,?_⟩
   .omega
   .intro o v em;have e2:(if b=b then(cur'.toList.take (n'*sz))[o]? else g.M b o)=some v:=em
    grind
  .rename_i hi;rw[cQ]at ei;split at ei
   .grind
   .rename_i hid;obtain⟨v,f1,f2⟩:=h.rows i el' sz' ei;refine⟨v,by simp only[G.ez];rw[ah hi];exact f1,f2.imp (λh=>h) ?_⟩;rintro⟨b1,n1,KE,uU,f3,f4,f5,f6,f7,f8,f9,f10,f11⟩;have:b1≠b:=λhh=>h.jA id i _ _ _ v b e ei (λXR=>hid XR.symm) hg f1 (ey hlt) (by grind [ey]);exact⟨b1,n1,KE,uU,f3,f4,by grind [lO],f6,f7,f8,f9,f10.mono hM,λo v em=>f11 o v (by rw[<-hNo b1 this];exact em)⟩
 .intro i j r s u v b1 ei ej hij SN DG e5';simp only[Tb.cC,Tb.su,bP,cQ]at ei ej;simp only[G.ez]at SN DG;split at ei
  .rename_i hi;rw[ai hi]at SN;injection SN with SN;subst SN;have e5':=gC e5';subst e5';split at ej
   .omega
   .rename_i hj;rw[ah hj]at DG;split at ej
    .grind
    .rename_i hjd;exact h.jA id j _ s _ v _ e ej (λhh=>hjd hh.symm) hg DG (ey hlt)
  .rename_i hi;rw[ah hi]at SN;split at ei
   .grind
   .rename_i hid;split at ej
    .rename_i hj;rw[ai hj]at DG;injection DG with DG;subst DG;intro e6';obtain rfl:=gC e6';exact h.jA i id r _ u _ _ ei e hid SN hg e5' (ey hlt)
    .rename_i hj;rw[ah hj]at DG;split at ej
     .grind
     .exact h.jA i j r s u v b1 ei ej hij SN DG e5'
 .intro i j p r b1 c1 v ei ej SN DG p1;simp only[Tb.cC,Tb.su,bP,cQ]at ej;simp only[G.ez]at DG;split at ej
  .rename_i hj;rw[ai hj]at DG;injection DG with DG;subst DG;intro e6';obtain rfl:=gC e6';exact h.gS i id p _ _ c1 _ ei e SN hg p1 (ey hlt)
  .rename_i hj;rw[ah hj]at DG;split at ej
   .grind
   .exact h.gS i j p r b1 c1 v ei ej SN DG p1
 .intro i hi;simp only[Tb.cC,Tb.su]at hi;have:=h.fresh i O;simp only[G.ez];rw[ah O];exact this
end
section
variable{P:Program}
structure Src(P:Program)(u:TypeId)(size:Nat)(x:Value)(m:Nat)(news:List Value)(w:World):Prop where
 und:(∃e,P.underlying u=some (.slice e))\/P.underlying u=some .string
 len:(Builtin.lenOf x).run P w= .ok m w
 cells:(Builtin.firstCells size m x).run P w= .ok news.toArray w
 aon:(Builtin.firstCells size m x).run P w.drew= .ok news.toArray w.drew
 one:∀v∈news,v.oneCell'=true
 num:news.length=m*size
theorem iK(P:Program)(g o:Nat)(t:TypeId)(fz:Nat×Nat):∀(vs:List Value) (i:Nat) (cur:Array Value) (w:World),w.heap[g]?=some (.cells cur t fz)->(fz=(0,0)\/cur.size<=fz.1)->o+i+vs.length<=cur.size->(∀v∈vs,v.oneCell'=true)->(storeCells ⟨g,o,none⟩ vs i).run P w= .ok () (w.setRow g (cur.toList.take (o+i)++vs++cur.toList.drop (o+i+vs.length)).toArray)
 |[],i,cur,w,hg,_,_,_=>by
  simp only[storeCells,gL,fQ,qQ,eO,Array.toArray_toList];rw[setRow_self w g cur t fz hg];rfl
 |v::rest,i,cur,w,hg,hfz,hl,h1=>by
  have hi:o+i<cur.size:=by grind
  have aeD:(⟨g,o,none⟩:Addr).add i=⟨g,o+i,none⟩:=by grind [Addr.add]
  have hcell:w.cell? ⟨g,o+i,none⟩=some cur[o+i]:=by grind [World.cell?]
  have aq6:w.frozen? ⟨g,o+i,none⟩=false:=by
   grind [World.frozen?]
  have hst:(store ((⟨g,o,none⟩:Addr).add i) v).run P w= .ok () (w.setRow g (cur.setIfInBounds (o+i) v)):=by
   grind [run_store,setCell_eq_setRow]
  have ih:=iK P g o t fz rest (i+1) (cur.setIfInBounds (o+i) v) (w.setRow g (cur.setIfInBounds (o+i) v)) (setRow_heap w g cur _ t _ hg) (by grind) (by grind) (λx hx=>h1 x (by grind));simp only[storeCells,Sem.run_bind,hst,Result.andThen_ok,ih,setRow_setRow];congr 3;have e:=list_seg_step cur.toList (o+i) v rest O;simpa[Array.toList_setIfInBounds,ow]using e
def FV{t u ty e:TypeId}{i:TypeInfo}(ht:P.underlying t=some (.slice e))(hi:P.info? e=some i){b sLen sCap m:Nat}{cur:Array Value}{x:Value}{news:List Value}{w:World}{tt:TypeId}{fz:Nat×Nat}(hg:w.heap[b]?=some (.cells cur tt fz))(hfz:fz=(0,0)\/cur.size<=fz.1)(hsrc:Src P u i.size x m news w)(hroom:sLen+m<=sCap)(hfit:sLen*i.size+news.length<=cur.size):(Builtin.append_ #[t,u] ty #[.slice (some ⟨b,0,none⟩) sLen sCap,x]).run P w= .ok (.slice (some ⟨b,0,none⟩) (sLen+m) sCap) (w.setRow b (cur.toList.take (sLen*i.size)++news++cur.toList.drop (sLen*i.size+news.length)).toArray):=by
 obtain⟨hu,hlen,hcells,_,hone,_⟩:=hsrc;have hst:=iK P b (sLen*i.size) tt fz news 0 cur w hg hfz O hone;simp only[qQ]at hst;rcases hu with⟨e',hu⟩|hu<;>simp[Builtin.append_,run_underlying ht,run_underlying hu,sizeOf,typeInfo,hi,hlen,hroom,hcells,Addr.add_lit,hst]
def wP{t u ty e:TypeId}{i:TypeInfo}{z:Value}(ht:P.underlying t=some (.slice e))(hi:P.info? e=some i)(hz:i.zero=some z){s:Value}{a:Option Addr}{sLen sCap m:Nat}{olds:List Value}{x:Value}{news:List Value}{w:World}(hs:s= .slice a sLen sCap)(hold:(Builtin.firstCells i.size sLen s).run P w.drew= .ok olds.toArray w.drew)(hsrc:Src P u i.size x m news w)(hroom:sCap<sLen+m)(h63:sLen+m<=9223372036854775807)(hfit:Builtin.nextslicecap (sLen+m) sCap*i.bytes<=281474976710656):(Builtin.append_ #[t,u] ty #[s,x]).run P w= .ok (.slice (some ⟨w.heap.size,0,none⟩) (sLen+m) (grownCap w (sLen+m) sCap e)) (w.drew.alloc (.cells (olds.toArray++news.toArray++Builtin.zeroCells z.cells (grownCap w (sLen+m) sCap e-(sLen+m))) e)):=by
 obtain⟨hu,hlen,hcells,YQ,hone,_⟩:=hsrc;have hn:¬(sLen+m<=sCap):=O;have h63':¬(9223372036854775807<((sLen:Int)+(m:Int))):=O;have aeE:¬(281474976710656<Builtin.nextslicecap (sLen+m) sCap*i.bytes):=O;subst hs;rcases hu with⟨e',hu⟩|hu<;>simp[Builtin.append_,run_underlying ht,run_underlying hu,sizeOf,typeInfo,zeroValue,hi,hz,hlen,hn,h63',aeE,Question.forced,YQ,hold,newRow,grownCap]
 all_goals grind
end
def eV(P:Program)(st:AS)(o:Oper)(x:AV)(a_:Tb):Prop:=∀(w0:World) (M0:Mem) (F:Nat->Prop) (g:G) (a:Act) (w:World),bf w0 M0 F st.tb g w->(∀t,Operand.tmp t∈o.op.operands->bJ g (a.tmps.getD t undef) (st.sl t))->∀(K:Act->World->Prop) (Q:Exit->Act->World->Prop),(∀v w' g',g.le g'->bf w0 M0 F a_ g' w'->bJ g' v x->K (a.put o.dst v) w')->o.wp P a w K Q
section
variable{P:Program}{st:AS}{o:Oper}
theorem eV.ae9{x:AV}(h:dy P st.sl o x):eV P st o x st.tb:=λw0 M0 F g a w hw ho K Q hK=>
 h w0 M0 F st.tb g a w hw ho K Q λv w' N h1 h2 h3=>hK v w' (g.with N) (G.qJ h1) h2 h3
def cg{x:AV}{a_:Tb}(h:∀(w0:World) (M0:Mem) (F:Nat->Prop) (g:G) (a:Act) (w:World),bf w0 M0 F st.tb g w->(∀y,y∈o.op.operands->bJ g (a.eval y) (bT st.sl y))->∃v w' g',(execOp a.eval o).run P w= .ok (.value v) w'/\g.le g'/\bf w0 M0 F a_ g' w'/\bJ g' v x):eV P st o x a_:=by
 intro w0 M0 F g a w hw ho K Q hK;obtain⟨v,w',g',hr,h1,h2,h3⟩:=h w0 M0 F g a w hw (λy hy=>kN y λt e=>ho t (e▸hy));unfold Oper.wp;rw[hr];exact hK v w' g' h1 h2 h3
def Qc{a_:Tb}(h:∀(w0:World) (M0:Mem) (F:Nat->Prop) (g:G) (a:Act) (w:World),bf w0 M0 F st.tb g w->(∀y,y∈o.op.operands->bJ g (a.eval y) (bT st.sl y))->∃w' g',(execOp a.eval o).run P w= .ok .skip w'/\g.le g'/\bf w0 M0 F a_ g' w'):eV P st o .any a_:=by
 intro w0 M0 F g a w hw ho K Q hK;obtain⟨w',g',hr,h1,h2⟩:=h w0 M0 F g a w hw (λy hy=>kN y λt e=>ho t (e▸hy));unfold Oper.wp;rw[hr];exact hK undef w' g' h1 h2 (.any _)
def AV.dW:AV->Option (List AV)
 | .p (.agg false xs)=>some (xs.map .p)
 | .p (.agg true _)=>none
 | .agg false xs=>some xs
 | .agg true _=>none
 | .any=>none
 |x=>some [x]
theorem lY{g:G}:∀{vs:List Value} {xs:List PC},dh g.M vs xs->aV g vs (xs.map .p)
 |_,_,.nil=> .nil
 |_,_,.cons h hs=> .cons (.p h) (lY hs)
def rz{g:G}{v:Value}{x:AV}{zs:List AV}(h:bJ g v x)(e:x.dW=some zs):aV g v.cells.toList zs/\∀u∈v.cells.toList,u.oneCell'=true:=by
 have one:∀u:Value,u.oneCell'=true->u.cells=#[u]:=λu hu=>by cases u<;>simp_all [Value.cells,Value.oneCell']
 have single:x.dW=some [x]->v.oneCell'=true->aV g v.cells.toList zs/\∀u∈v.cells.toList,u.oneCell'=true:=λhx h1=>by
  rw[hx]at e;injection e with e;subst e;rw[one v h1];exact⟨.cons h .nil,by grind⟩
 cases h with
 |p h1=>
  rename_i y;cases y with
  |agg b xs=>
   cases b with
   |true=>simp[AV.dW]at e
   |false=>
    simp only[AV.dW,uH]at e;subst e;cases h1 with
    |agg hs h2=>grind [Value.cells,lY]
  |_=>exact single rfl (jZ h1 rfl).2
 |obj _=>exact single rfl rfl
 |own _ hr=>exact single rfl (jZ hr rfl).2
 |full hr=>exact single rfl rfl
 |nn _=>exact single rfl rfl
 |view _ _ _ _ _=>exact single rfl rfl
 |agg hs h1=>grind [AV.dW,Value.cells]
 |mB _=>exact single rfl rfl
 |pK _=>exact single rfl rfl
 |o_ _=>exact single rfl rfl
 |sE _=>simp[AV.dW]at e
 |any _=>simp[AV.dW]at e
theorem aV.take{g:G}:∀{vs:List Value} {xs:List AV} (n:Nat),aV g vs xs->aV g (vs.take n) (xs.take n)
 |_,_,0,_=>by simpa using aV.nil
 |_,_,n+1,.nil=>by simpa using aV.nil
 |_,_,n+1,.cons h1 hs=>by simpa using aV.cons h1 (hs.take n)
theorem aV.drop{g:G}:∀{vs:List Value} {xs:List AV} (n:Nat),aV g vs xs->aV g (vs.drop n) (xs.drop n)
 |_,_,0,h=>by grind
 |_,_,n+1,.nil=>by simpa using aV.nil
 |_,_,n+1,.cons h1 hs=>by simpa using hs.drop n
theorem aV.append{g:G}:∀{vs ws:List Value} {xs ys:List AV},aV g vs xs->aV g ws ys->aV g (vs++ws) (xs++ys)
 |_,_,_,_,.nil,k=>k
 |_,_,_,_,.cons h1 hs,k=> .cons h1 (hs.append k)
def bX(P:Program)(t:TypeId):Option (List PC):=match(P.info? t).bind (·.zero)with
 |some z=>if z.cells.toList.all (·.oneCell')then some (z.cells.toList.map c1)else none
 |none=>none
def acw{el:TypeId}{cs:Array Value}{zs:List AV}{w0:World}{M0:Mem}{F:Nat->Prop}{g:G}{w:World}(hw:bf w0 M0 F st.tb g w)(hr:aV g cs.toList zs)(h1:∀u∈cs.toList,u.oneCell'=true):bf w0 M0 F (st.tb.bD ⟨el,zs.length,zs⟩) (g.eN st.tb.nx w.heap.size 1) (w.alloc (.cells cs el)):=by
 have hl:=hr.length;have hB:Below w.heap.size w (w.alloc (.cells cs el)):=(Below.refl _ _).alloc (aX _) _;have ht:cs.toList.take zs.length=cs.toList:=gv O;have e1:=hw.Ec (o:=⟨el,zs.length,zs⟩) (cur:=cs) (c:=1) hB (heap_alloc_new w _) (by grind) (by decide) (by grind) (by grind) h1;omega
theorem akD{t:TypeId}{x:Operand}{zs:List AV}(ho:o.op= .box t x)(hx:(bT st.sl x).dW=some zs):eV P st o (.obj st.tb.nx 0) (st.tb.bD ⟨t,zs.length,zs⟩):=cg λw0 M0 F g a w hw h=>by
 have h1:=h x (by simp[ho,Op.operands]);obtain⟨hr,hone⟩:=rz h1 hx;exact⟨.pointer (some ⟨w.heap.size,0,none⟩),w.alloc (.cells (a.eval x).cells t),_,by simp[execOp,ho,Instr.box,newVar,newRow],hw.nP _ _,acw hw hr hone,.obj (c:=1) (by simp[G.eN])⟩
def ZS{t:TypeId}{zs:List PC}(ho:o.op= .alloc t)(hz:bX P t=some zs):eV P st o (.obj st.tb.nx 0) (st.tb.bD ⟨t,zs.length,zs.map .p⟩):=cg λw0 M0 F g a w hw h=>by
 unfold bX at hz;split at hz
 .rename_i z Kf;split at hz
  .rename_i hall;injection hz with hz;subst hz;have acy:∀v∈z.cells.toList,v.oneCell'=true:=gX.1 hall;have hr:aV g z.cells.toList ((z.cells.toList.map c1).map .p):=lY (wS g.M _ acy);have hnew:=acw (el:=t) hw hr acy;rw[pe]at hnew;refine⟨.pointer (some ⟨w.heap.size,0,none⟩),w.alloc (.cells z.cells t),_,?_,hw.nP _ _,hnew,.obj (c:=1) (by simp[G.eN])⟩;cases hi:P.info? t with
   |none=>grind
   |some i=>
    rw[hi]at Kf;have r7:i.zero=some z:=by grind
    simp[execOp,ho,Instr.alloc,zeroValue,typeInfo,hi,r7,newVar,newRow]
  grind
 grind
def nL(off size:Nat)(a:Bool)(xs:List AV):Option AV:=if a then(if off+size<=xs.length then some (.agg false ((xs.drop off).take size))else none)else if size=1 then xs[off]? else none
theorem U3{t:TypeId}{x:Operand}{id off s:Nat}{ag:Bool}{ob:Ob}{y:AV}(ho:o.op= .load t x)(hx:bT st.sl x= .obj id off)(hl:lk id st.tb.bx=some ob)(ht:bS P t=some ag)(hs:aW P t=some s)(hp:nL off s ag ob.xs=some y):eV P st o y st.tb:=cg λw0 M0 F g a w hw h=>by
 have h1:=h x (by simp[ho,Op.operands]);rw[hx]at h1;generalize hv:a.eval x=v at h1;cases h1 with
 |obj e=>
  rename_i b c;have CD:=hw.boxes id ob hl;by_cases hne:ob.xs=[]
  .unfold nL at hp;rw[hne]at hp;cases ag with
   |true=>
    simp only[cr]at hp;split at hp
    .rename_i hle;injection hp with hp;subst hp;simp only[fQ,Nat.le_zero]at hle;obtain⟨rfl,rfl⟩:off=0/\s=0:=O;exact⟨.agg #[],w,g,by simp[execOp,ho,hv,Instr.loadAt,Instr.sureAddr,loadVar,iZ ht,run_sizeOf hs,loadCells,loadCellsFrom],G.le_refl _,hw,by simpa using bJ.agg (g:=g) (vs:=[]) (xs:=[]) .nil H⟩
    grind
   |false=>grind
  have iQ:=CD.pos e hne;obtain⟨cur,f2,f3,⟨tt,fz,f4,fo⟩,f5,f6,f7,f8,f9⟩:=CD.real e iQ;have cell:∀j u,cur[j]?=some u->w.cell? ⟨b,j,none⟩=some u:=λj u e=>by grind [World.cell?]
  have hlen:=f8.length;unfold nL at hp;cases ag with
  |true=>
   simp only[cr]at hp;split at hp
   .rename_i hle;injection hp with hp;subst hp;have kW:off+s<=cur.toList.length:=by grind
    have hls:((cur.toList.drop off).take s).length=s:=by grind
    have hrun:=run_loadCells_list (P:=P) w ⟨b,off,none⟩ ((cur.toList.drop off).take s) (λj u e=>by
     grind [Addr.add_lit])
    rw[hls]at hrun;have Kb:aV g ((cur.toList.drop off).take s) ((ob.xs.drop off).take s):=by
     have:=(f8.drop off).take s
     grind [List.drop_take]
    refine⟨.agg ((cur.toList.drop off).take s).toArray,w,g,?_,G.le_refl _,hw,.agg Kb (λu hu=>f9 u ?_)⟩
    .simp[execOp,ho,hv,Instr.loadAt,Instr.sureAddr,loadVar,iZ ht,run_sizeOf hs,hrun]
    grind
   grind
  |false=>
   simp only[dZ,dc]at hp;split at hp
   .obtain⟨u,hu,hr⟩:=f8.get hp;have Hs:cur[off]?=some u:=by
     grind
    exact⟨u,w,g,by simp[execOp,ho,hv,Instr.loadAt,Instr.sureAddr,loadVar,iZ ht,load,Sem.run,cell _ _ Hs],G.le_refl _,hw,hr⟩
   grind
theorem NK{t:TypeId}{x y:Operand}{id off:Nat}{ob:Ob}{zs:List AV}(ho:o.op= .store t x y)(hx:bT st.sl x= .obj id off)(hl:lk id st.tb.bx=some ob)(hy:(bT st.sl y).dW=some zs)(hs:aW P t=some zs.length)(hle:off+zs.length<=ob.xs.length):eV P st o .any (st.tb.aY id {ob with xs:=ob.xs.take off++zs++ob.xs.drop (off+zs.length)}):=Qc λw0 M0 F g a w hw h=>by
 have h1:=h x (by simp[ho,Op.operands]);rw[hx]at h1;obtain⟨hr,hone⟩:=rz (h y (by simp[ho,Op.operands])) hy;have hlz:=hr.length;generalize hv:a.eval x=v at h1;generalize hvy:a.eval y=vy at*;cases h1 with
 |obj e=>
  rename_i b c;have f1:=e;have CD:=hw.boxes id ob hl;by_cases hne:ob.xs=[]
  .obtain⟨rfl,hz⟩:off=0/\zs.length=0:=by grind
   have hz0:=o5 hz;subst hz0;have aoI:vy.cells.toList=[]:=o5 O;refine⟨w,g,?_,G.le_refl _,hw.sub (λi p e=>?_) (λ_ _ e=>e) (aX _)⟩
   .have e4:vy.cells.size=0:=O;simp[execOp,ho,hv,hvy,Instr.storeAt,Instr.sureAddr,storeVar,run_sizeOf hs,e4,aoI,storeCells]
   .simp only[Tb.aY,bP]at e;by_cases hi:i=id
    .rw[ai hi]at e;injection e with e;subst e;subst hi;rw[hl];simp
    grind [cQ]
  have iQ:=CD.pos e hne;obtain⟨cur,f2,f3,⟨tt,fz,f4,fo⟩,f5,f6,f7,f8,f9⟩:=CD.real e iQ;have hlen:=f8.length;have hst:=iK P b off tt fz vy.cells.toList 0 cur w f4 fo.fz O hone;simp only[qQ]at hst;have hxl:(ob.xs.take off++zs++ob.xs.drop (off+zs.length)).length=ob.xs.length:=by grind
  have Gu:((cur.toList.take off++vy.cells.toList++cur.toList.drop (off+vy.cells.toList.length)).toArray).toList.take ob.xs.length=(cur.toList.take ob.xs.length).take off++vy.cells.toList++(cur.toList.take ob.xs.length).drop (off+zs.length):=by
   apply qV;intro j;simp only[u_,List.getElem?_append,mo,lV,F3,Array.length_toList,hlz];have e4:vy.cells.size=zs.length:=O;simp only[e4,Array.length_toList]at*;by_cases h1:j<ob.xs.length
   .by_cases h2:j<off
    all_goals grind
   grind
  refine⟨w.setRow b (cur.toList.take off++vy.cells.toList++cur.toList.drop (off+vy.cells.toList.length)).toArray,g,?_,G.le_refl _,hw.aY (c:=c) hl f1 iQ f4 ?_ rfl rfl ?_ ?_ ?_⟩
  .have e4:vy.cells.size=zs.length:=O;simp[execOp,ho,hv,hvy,Instr.storeAt,Instr.sureAddr,storeVar,run_sizeOf hs,e4,hst]
  .simp at hlz⊢;omega
  .rw[hxl];simp at hlz⊢;omega
  .rw[hxl,Gu];exact((f8.take off).append hr).append (f8.drop (off+zs.length))
  grind
end
variable{c:Call}{xs:List PC}{us:List Value}{M:Mem}{dQ cap sz:Nat}{x y:Operand}{a:Option Addr}{fX:Option Nat}{e t u:TypeId}{v:Value}{w:World}
section
variable{P:Program}{st:AS}{o:Oper}
def dF(P:Program)(t:TypeId):Option (TypeId×Nat×Nat):=match P.underlying t with
 |some (.slice e)=>match P.info? e with
  |some i=>if i.zero.any (λz=>decide (z.cells.size=i.size)&&z.cells.toList.all (·.oneCell'))then some (e,i.size,i.bytes)else none
  |none=>none
 |_=>none
structure Z1(M:Mem)(v:Value)(xs:List PC)(a:Option Addr)(cap:Nat)(us:List Value):Prop where
 hv:v= .slice a xs.length cap
 hcap:xs.length<=cap
 lC:cap<=maxLen
 pI:dh M us xs
 hone:∀u∈cellsOf us,u.oneCell'=true
 eM:∀b,a=some b->(b=⟨b.block,b.off,none⟩/\At M b.block b.off (cellsOf us))\/cap=0
 hnil:a=none->cap=0
def rD(h:jc M v (.sl xs)):∃a cap us,Z1 M v xs a cap us:=by
 cases h with
 |dX=>exact⟨none,0,[],rfl,aX _,q_ _,.nil,by simp[cellsOf],H,λ_=>rfl⟩
 |ug a=>exact⟨some a,0,[],rfl,aX _,q_ _,.nil,by simp[cellsOf],λ_ _=> .inr rfl,λ_=>rfl⟩
 |sl hn hc hm hsz hu h1 eM hs=>
  rename_i b off n cap sz us;have hl:=hs.length;obtain rfl:n=xs.length:=O;exact⟨some ⟨b,off,none⟩,cap,us,rfl,hc,hm,hs,h1,λb' e=>by grind,λe=>by grind⟩
theorem ew{M:Mem}{sz:Nat}:∀{us:List Value} {xs:List PC},dh M us xs->(∀x∈xs,x.width=sz)->∀u∈us,u.cells.size=sz
 |_,_,.nil,_,u,hu=>by grind
 |_,_,.cons h hs,hw,u,hu=>by
  rcases fF.1 hu with rfl|hu
  .rw[tD h];grind
  .exact ew hs (λx hx=>hw x (by grind)) u hu
theorem ji{b:Addr}{len size n:Nat}{cs:List Value}(hl:cs.length=n*size)(h:∀j v,cs[j]?=some v->w.cell? (b.add j)=some v):(Builtin.firstCells size n (.slice (some b) len cap)).run P w= .ok cs.toArray w:=run_firstCells_some w size n b len cap cs hl h
def nG(h:Z1 M v xs a cap us)(hw:∀x∈xs,x.width=sz)(hH:iO w M):(Builtin.firstCells sz xs.length v).run P w= .ok (cellsOf us).toArray w:=by
 have hl:=h.pI.length;have kW:=dx us (ew h.pI hw);rw[h.hv];cases a with
 |none=>
  have hc:=h.hnil rfl;have hx:=h.hcap;have:xs=[]:=o5 O
  grind [run_firstCells_none,cellsOf]
 |some b=>
  rcases h.eM b rfl with⟨e,eM⟩|hc0
  case inr=>
   have hx:=h.hcap
   grind [ji]
  refine ji (by grind) λj u hj=>?_;rw[e,Addr.add_lit];exact hH _ _ _ (eM j u hj)
def IW(hu:(aO P u).isSome=true)(h:Z1 M v xs a cap us)(hw:∀x∈xs,x.width=sz)(hH:iO w M):Src P u sz v xs.length (cellsOf us) w:=by
 have hl:=h.pI.length;have kW:=dx us (ew h.pI hw);refine⟨.inl ?_,?_,nG h hw hH,nG h hw ⟨λb o v e=>hH b o v e,hH.g⟩,h.hone,by grind⟩
 .grind [aO]
 .rw[h.hv];rfl
def NU{s:ByteArray}(hu:isStr P u=true):Src P u 1 (.string s) (bs s).length ((bs s).map λb=>Value.int .u8 b.toNat) w:=by
 have hf:∀w:World,(Builtin.firstCells 1 (bs s).length (.string s)).run P w= .ok ((bs s).map λb=>Value.int .u8 b.toNat).toArray w:=λw=>by
  simp only[Builtin.firstCells,Sem.run_pure];congr 1;rw[nN];apply Array.ext';simp[bs]
 exact⟨.inr (nt hu),by simp[Builtin.lenOf,nN],hf w,hf _,by simp[Value.oneCell'],H⟩
def dL(ho:o.op= .call c)(hc:c.callee= .builtin .append)(ha:c.args=#[x,y])(ht:c.argTypes=#[t,u])(a:Act)(w:World):(execOp a.eval o).run P w=((Builtin.append_ #[t,u] o.type #[a.eval x,a.eval y]).run P w).andThen λv w=> .ok (.value v) w:=by
 simp only[execOp,ho,resolve,hc,ha,ht,Sem.run_bind,Sem.run_pure,Result.andThen_ok,invoke,builtin,FH,dB,qN]
theorem jM(us vs:List Value):cellsOf (us++vs)=cellsOf us++cellsOf vs:=by simp[cellsOf]
def iq(h:dF P t=some (e,sz,dQ)):P.underlying t=some (.slice e)/\∃i z,P.info? e=some i/\i.zero=some z/\i.size=sz/\i.bytes=dQ/\z.cells.size=sz:=by
 unfold dF at h;split at h
 .rename_i e' he;split at h
  .rename_i i hi;split at h
   .rename_i hz;injection h with h;obtain⟨rfl,rfl,rfl⟩:=U h;cases hzz:i.zero with
    |none=>grind
    |some z=>grind
   grind
  grind
 grind
theorem UM(h:dF P t=some (e,sz,dQ)){i:TypeInfo}{z:Value}(hi:P.info? e=some i)(hz:i.zero=some z):∀v∈z.cells.toList,v.oneCell'=true:=by
 grind [dF]
def rE{ty:TypeId}{i:TypeInfo}(ht:P.underlying t=some (.slice e))(hi:P.info? e=some i){n:Nat}{x:Value}(hsrc:Src P u i.size x 0 [] w)(hn:n<=cap):(Builtin.append_ #[t,u] ty #[.slice a n cap,x]).run P w= .ok (.slice a n cap) w:=by
 obtain⟨hu,hlen,hcells,_,_,_⟩:=hsrc;rcases hu with⟨e',hu⟩|hu<;>cases a<;>simp[Builtin.append_,run_underlying ht,run_underlying hu,sizeOf,typeInfo,hi,hlen,hn,hcells,storeCells]
def rQ(tb:Tb)(fX:Option Nat)(e:TypeId)(sz:Nat):Tb:=⟨tb.bx,(tb.nx,e,sz)::(match fX with|some id=>del id tb.rw|none=>tb.rw),tb.nx+1⟩
def xp{w0:World}{M0:Mem}{F:Nat->Prop}{tb:Tb}{g:G}(hw:bf w0 M0 F tb g w){ty:TypeId}(ht:dF P t=some (e,sz,dQ))(hsz:0<sz){y:Value}{ys:List PC}{us':List Value}(hv:Z1 g.M v xs a cap us)(Vg:∀x∈xs,x.width=sz)(NT:∀x∈ys,x.width=sz)(hys:dh g.M us' ys)(hsrc:Src P u sz y ys.length (cellsOf us') w)(hbound:(xs.length+ys.length)*dQ<=140737488355328)(lC:xs.length+ys.length<=9223372036854775807)(hright:match fX with|none=>∃m,v= .slice a m m|some id=>lk id tb.rw=some (e,sz)/\g.rv id=some v):∃v' w' g',(Builtin.append_ #[t,u] ty #[v,y]).run P w= .ok v' w'/\g.le g'/\bf w0 M0 F (rQ tb fX e sz) g' w'/\bJ g' v' (.own tb.nx (xs++ys)):=by
 have toApp:∀{g':G} {w':World},bf w0 M0 F (tb.cC e sz) g' w'->bf w0 M0 F (rQ tb fX e sz) g' w':=λh=>
  h.sub (λ_ _ e=>e) (λi r er=>by
   grind [rQ,Tb.cC,bP,cQ]) (aX _)
 obtain⟨hU,i,z,hi,hz,r6,Gt,hzs⟩:=iq ht;subst r6;have hlu:=hv.pI.length;have hly:=hys.length;have hcx:=dx us (ew hv.pI Vg);have hcy:=dx us' (ew hys NT);have Vh:∀x∈us++us',x.cells.size=i.size:=λx hx=>by
  rcases lD.1 hx with hx|hx
  .exact ew hv.pI Vg x hx
  .exact ew hys NT x hx
 have hone:∀x∈cellsOf (us++us'),x.oneCell'=true:=λx hx=>by
  rw[jM]at hx;rcases lD.1 hx with hx|hx
  .exact hv.hone x hx
  .exact hsrc.one x hx
 have NV:∀{N:Mem},g.M.le N->dh N (us++us') (xs++ys):=λh=>(hv.pI.mono h).append (hys.mono h);have aqg:(xs++ys).length=xs.length+ys.length:=mo;have aoO:(cellsOf (us++us')).length=(xs.length+ys.length)*i.size:=by rw[dx _ Vh];grind
 have Qd:=hv.hv;rcases iD cap (xs.length+ys.length)with hgrow|hroom
 .
  have hfit:Builtin.nextslicecap (xs.length+ys.length) cap*i.bytes<=281474976710656:=growslice_fits hgrow (by grind);have hold:=nG (P:=P) hv Vg (w:=w.drew) ⟨λb o v e=>hw.holds b o v e,hw.holds.g⟩;have hrun:=wP (P:=P) (ty:=ty) hU hi hz Qd hold hsrc hgrow lC hfit;have hge:=grownCap_ge w (xs.length+ys.length) cap e;have UL:=grownCap_le_maxLen w (xs.length+ys.length) cap e (by grind [maxLen]);generalize grownCap w (xs.length+ys.length) cap e=C at*;have Gu:((cellsOf us).toArray++(cellsOf us').toArray++Builtin.zeroCells z.cells (C-(xs.length+ys.length))).size=C*i.size:=by
   simp only[Array.size_append,Br,size_zeroCells,hcx,hcy,hzs,hlu,hly];rw[<-oz,<-oz];grind
  have hB:Below w.drew.heap.size w.drew (w.drew.alloc (.cells ((cellsOf us).toArray++(cellsOf us').toArray++Builtin.zeroCells z.cells (C-(xs.length+ys.length))) e)):=(Below.refl _ _).alloc (aX _) _;obtain⟨hs,hM,eM⟩:=hw.drew.ajM (el:=e) (sz:=i.size) (n:=xs.length+ys.length) (cap:=C) hB (heap_alloc_new w.drew _) Gu hge UL hsz;have zV:((cellsOf us).toArray++(cellsOf us').toArray++Builtin.zeroCells z.cells (C-(xs.length+ys.length))).toList.take ((xs.length+ys.length)*i.size)=cellsOf (us++us'):=by
   grind [jM]
  rw[zV]at hs hM eM;have hle:=hw.drew.DF (.slice (some ⟨w.heap.size,0,none⟩) (xs.length+ys.length) C);refine⟨.slice (some ⟨w.heap.size,0,none⟩) (xs.length+ys.length) C,_,(g.with (g.M.ext w.heap.size (cellsOf (us++us')))).ez tb.nx (.slice (some ⟨w.heap.size,0,none⟩) (xs.length+ys.length) C),hrun,(G.qJ hM).trans ⟨Mem.le_refl _,λ_ _ e=>e,λj p ej=>?_⟩,toApp hs,.own (by simp[G.ez]) ?_⟩
  .have:=hw.pO ej;simp only[G.ez];rw[ah O];simp_all
  .exact .sl (sz:=i.size) (by grind) O UL hsz Vh hone eM (NV hM)
 .cases fX with
  |none=>
   obtain⟨m,IX⟩:=hright;rw[Qd]at IX;injection IX with _ e1 e2;have e3:xs.length=cap:=O;have hy0:ys=[]:=o5 O;subst hy0;have Yf:us'=[]:=o5 O;subst Yf;have hrun:=rE (P:=P) (ty:=ty) (n:=xs.length) (cap:=cap) (a:=a) hU hi (by simpa[cellsOf]using hsrc) hv.hcap;rw[<-Qd]at hrun;have hs:=hw.yb e i.size a cap;have hvc:v= .slice a cap cap:=by grind
   rw[<-hvc]at hs;refine⟨v,w,_,hrun,hw.DF v,toApp hs,.own (by simp[G.ez]) ?_⟩
   .rw[gL];show jc g.M v (.sl xs);rw[Qd];cases a with
    |none=>
     have hx:=hv.hnil rfl;have:=hv.hcap;have:xs=[]:=o5 O;subst this;rw[hx];exact .dX
    |some b=>
     rcases hv.eM b rfl with⟨eb,eM⟩|hc0
     case inr=>
      have:=hv.hcap;have:xs=[]:=o5 O;subst this;rw[hc0];exact .ug b
     rw[eb];exact .sl (sz:=i.size) O hv.hcap hv.lC hsz (ew hv.pI Vg) hv.hone eM hv.pI
  |some id=>
   obtain⟨hid,Pe⟩:=hright;obtain⟨v0,f1,f2⟩:=hw.rows id e i.size hid;rw[Pe]at f1;injection f1 with f1;subst f1;rcases f2 with⟨a',m,IX⟩|⟨b,n,cap',cur,f3,f4,⟨tt,fz,f5,fo⟩,f6,f7,f8,f9,f10,f11⟩
   .
    rw[Qd]at IX;injection IX with e0 e1 e2;have e3:xs.length=cap:=O;have hy0:ys=[]:=o5 O;subst hy0;have Yf:us'=[]:=o5 O;subst Yf;have hrun:=rE (P:=P) (ty:=ty) (n:=xs.length) (cap:=cap) (a:=a) hU hi (by simpa[cellsOf]using hsrc) hv.hcap;rw[<-Qd]at hrun;have hs:=hw.yb e i.size a cap;have hvc:v= .slice a cap cap:=by grind
    rw[<-hvc]at hs;refine⟨v,w,_,hrun,hw.DF v,toApp hs,.own (by simp[G.ez]) ?_⟩
    .rw[gL];show jc g.M v (.sl xs);rw[Qd];cases a with
     |none=>
      have hx:=hv.hnil rfl;have:=hv.hcap;have:xs=[]:=o5 O;subst this;rw[hx];exact .dX
     |some b=>
      rcases hv.eM b rfl with⟨eb,eM⟩|hc0
      case inr=>
       have:=hv.hcap;have:xs=[]:=o5 O;subst this;rw[hc0];exact .ug b
      rw[eb];exact .sl (sz:=i.size) O hv.hcap hv.lC hsz (ew hv.pI Vg) hv.hone eM hv.pI
   .
    rw[Qd]at f3;injection f3 with e0 e1 e2;subst e1;subst e2;subst e0;have aoP:At g.M b 0 (cellsOf us):=by
     rcases hv.eM _ rfl with⟨_,h⟩|hc0
     all_goals omega
    have aqh:cur.toList.take (xs.length*i.size)=cellsOf us:=by
     apply qV;intro j;rw[u_];split
     .rename_i hj;have hj':j<(cellsOf us).length:=by grind
      have h1:=hw.holds _ _ _ (aoP j _ (n_ hj'))
      grind [World.cell?]
     grind
    have hfit:xs.length*i.size+(cellsOf us').length<=cur.size:=by rw[hcy,hly,<-oz];exact cT (yc _ hroom) f6
    have hrun:=FV (P:=P) (ty:=ty) hU hi (sLen:=xs.length) (sCap:=cap) f5 fo.fz hsrc hroom hfit;rw[<-Qd]at hrun;generalize aqi:(cur.toList.take (xs.length*i.size)++cellsOf us'++cur.toList.drop (xs.length*i.size+(cellsOf us').length)).toArray=cur' at hrun;have hsize:cur'.size=cur.size:=by
     grind
    have hxl:(cur.toList.take (xs.length*i.size)).length=xs.length*i.size:=by grind
    have zV:cur'.toList.take ((xs.length+ys.length)*i.size)=cellsOf (us++us'):=by
     grind [jM]
    have hsame:∀j,j<xs.length*i.size->cur'[j]?=cur[j]?:=λj hj=>by
     grind
    rw[Qd]at Pe;obtain⟨hs,hM,eM⟩:=hw.ad_ (n':=xs.length+ys.length) hid Pe f5 hsize hsame O hroom f7;rw[zV]at hs hM eM;refine⟨_,_,(g.with λb' o=>if b'=b then(cellsOf (us++us'))[o]? else g.M b' o).ez tb.nx (.slice (some ⟨b,0,none⟩) (xs.length+ys.length) cap),hrun,(G.qJ hM).trans ⟨Mem.le_refl _,λ_ _ e=>e,λj p ej=>?_⟩,hs,.own (v:= .slice (some ⟨b,0,none⟩) (xs.length+ys.length) cap) (by simp[G.ez]) ?_⟩
    .have:=hw.pO ej;grind [G.ez]
    .exact .sl (sz:=i.size) (by grind) O f8 hsz Vh hone eM (NV hM)
def xq{ys:List PC}(ho:o.op= .call c)(hc:c.callee= .builtin .append)(ha:c.args=#[x,y])(hts:c.argTypes=#[t,u])(ht:dF P t=some (e,sz,dQ))(hsz:0<sz)(hu:(aO P u).isSome=true)(Vg:∀x∈xs,x.width=sz)(NT:∀x∈ys,x.width=sz)(hbound:(xs.length+ys.length)*dQ<=140737488355328)(lC:xs.length+ys.length<=9223372036854775807)(hy:(bT st.sl y).nm= .p (.sl ys)\/ys=[]/\(bT st.sl y).nm= .p .nil)(hx:match fX with|none=>bT st.sl x= .full xs\/xs=[]/\bT st.sl x= .p .nil|some id=>bT st.sl x= .own id xs/\lk id st.tb.rw=some (e,sz)):eV P st o (.own st.tb.nx (xs++ys)) (rQ st.tb fX e sz):=cg λw0 M0 F g a w hw h=>by
 have h1:=h x (by grind [Op.operands,Call.operands]);have h2:=cu (h y (by grind [Op.operands,Call.operands]));have hys:jc g.M (a.eval y) (.sl ys):=by
  rcases hy with hy|⟨rfl,hy⟩
  .grind [bO]
  .rw[hy]at h2;have:=bO h2;generalize a.eval y=v at this;cases this;exact .dX
 obtain⟨a',cap',us',afm⟩:=rD hys;have hsrc:=IW (u:=u) hu afm NT hw.holds;cases fX with
 |none=>
  simp only at hx;have hxx:∃ad m,a.eval x= .slice ad m m/\jc g.M (a.eval x) (.sl xs):=by
   rcases hx with hx|⟨rfl,hx⟩
   .rw[hx]at h1;generalize a.eval x=v at h1;cases h1 with
    |full hr=>grind
   .rw[hx]at h1;have:=bO h1;generalize a.eval x=v at this;cases this;exact⟨none,0,rfl,.dX⟩
  obtain⟨ad,m,em,hr⟩:=hxx;obtain⟨a1,KE,us1,GH⟩:=rD hr;obtain⟨v',w',g',hrun,hle,hs,hv⟩:=xp (P:=P) (ty:=o.type) hw ht hsz GH Vg NT afm.pI hsrc hbound lC (fX:=none) ⟨m,by
   have:=GH.hv;grind⟩
  exact⟨v',w',g',by rw[dL ho hc ha hts,hrun];rfl,hle,hs,hv⟩
 |some id=>
  obtain⟨hx,hid⟩:=hx;rw[hx]at h1;generalize hvx:a.eval x=v at h1;cases h1 with
  |own Pe hr=>
   obtain⟨a1,KE,us1,GH⟩:=rD hr;obtain⟨v',w',g',hrun,hle,hs,hv⟩:=xp (P:=P) (ty:=o.type) hw ht hsz GH Vg NT afm.pI hsrc hbound lC (fX:=some id) ⟨hid,Pe⟩;exact⟨v',w',g',by rw[dL ho hc ha hts,hvx,hrun];rfl,hle,hs,hv⟩
def EC{s:ByteArray}(ho:o.op= .call c)(hc:c.callee= .builtin .append)(ha:c.args=#[x,y])(hts:c.argTypes=#[t,u])(ht:dF P t=some (e,1,dQ))(hu:isStr P u=true)(Vg:∀x∈xs,x.width=1)(hbound:(xs.length+(bs s).length)*dQ<=140737488355328)(lC:xs.length+(bs s).length<=9223372036854775807)(hy:(bT st.sl y).nm= .p (.sc (.string s)))(hx:match fX with|none=>bT st.sl x= .full xs\/xs=[]/\bT st.sl x= .p .nil|some id=>bT st.sl x= .own id xs/\lk id st.tb.rw=some (e,1)):eV P st o (.own st.tb.nx (xs++af (bs s))) (rQ st.tb fX e 1):=cg λw0 M0 F g a w hw h=>by
 have h1:=h x (by grind [Op.operands,Call.operands]);have h2:=cu (h y (by grind [Op.operands,Call.operands]));rw[hy]at h2;have h2:=bU h2;have NT:∀x∈af (bs s),x.width=1:=by simp[af,PC.width]
 have hlen:(af (bs s)).length=(bs s).length:=by simp[af]
 have hsrc:=NU (P:=P) (s:=s) (u:=u) hu (w:=w);have acz:Src P u 1 (a.eval y) (af (bs s)).length (cellsOf ((bs s).map λb=>Value.int .u8 b.toNat)) w:=by
  grind [i_]
 cases fX with
 |none=>
  simp only at hx;have hxx:∃ad m,a.eval x= .slice ad m m/\jc g.M (a.eval x) (.sl xs):=by
   rcases hx with hx|⟨rfl,hx⟩
   .rw[hx]at h1;generalize a.eval x=v at h1;cases h1 with
    |full hr=>grind
   .rw[hx]at h1;have:=bO h1;generalize a.eval x=v at this;cases this;exact⟨none,0,rfl,.dX⟩
  obtain⟨ad,m,em,hr⟩:=hxx;obtain⟨a1,KE,us1,GH⟩:=rD hr;obtain⟨v',w',g',hrun,hle,hs,hv⟩:=xp (P:=P) (ty:=o.type) hw ht (by decide) GH Vg NT (mO g.M (bs s)) acz (by grind) O (fX:=none) ⟨m,by
   have:=GH.hv;grind⟩
  exact⟨v',w',g',by rw[dL ho hc ha hts,hrun];rfl,hle,hs,hv⟩
 |some id=>
  obtain⟨hx,hid⟩:=hx;rw[hx]at h1;generalize hvx:a.eval x=v at h1;cases h1 with
  |own Pe hr=>
   obtain⟨a1,KE,us1,GH⟩:=rD hr;obtain⟨v',w',g',hrun,hle,hs,hv⟩:=xp (P:=P) (ty:=o.type) hw ht (by decide) GH Vg NT (mO g.M (bs s)) acz (by grind) O (fX:=some id) ⟨hid,Pe⟩;exact⟨v',w',g',by rw[dL ho hc ha hts,hvx,hrun];rfl,hle,hs,hv⟩
end
end Go.Av
namespace Go.Av
open Go.RowKit
def EN(zs:List Value):∀(k off:Nat) (cs:Array Value),off+k+zs.length<=cs.size->((zs.zipIdx k).foldl (λcs (p:Value×Nat)=>cs.setIfInBounds (off+p.2) p.1) cs).toList=cs.toList.take (off+k)++zs++cs.toList.drop (off+k+zs.length):=by
 induction zs with
 |nil=>simp
 |cons z zs ih=>
  intro k off cs h;simp only[cF]at h;simp only[List.zipIdx_cons,F2];rw[ih (k+1) off (cs.setIfInBounds (off+k) z) (by grind)];rw[Array.toList_setIfInBounds];rw[show off+(k+1)=off+k+1 by omega];rw[List.take_set,List.drop_set_of_lt O];have h1:(cs.toList.take (off+k+1)).set (off+k) z=cs.toList.take (off+k)++[z]:=by
   have:off+k<cs.toList.length:=by grind
   rw[kG this];rw[List.set_append_right _ _ (by grind)];have:off+k-(cs.toList.take (off+k)).length=0:=by grind
   grind
  grind
section
variable{P:Program}{st:AS}{o:Oper}
def aT(P:Program)(t:TypeId)(i:Nat):Option (Nat×Nat):=match P.underlying t with
 |some (.struct fs)=>match fs[i]? with
  |some f=>match aW P f.type with
   |some s=>some (f.offset,s)
   |none=>none
  |none=>none
 |some (.array _ e)=>match aW P e with
  |some s=>some (i*s,s)
  |none=>none
 |some (.slice e)=>match aW P e with
  |some s=>some (i*s,s)
  |none=>none
 |_=>none
def rP(P:Program)(t:TypeId):List AV->List (Nat×AV)->Option (List AV)
 |cs,[]=>some cs
 |cs,(i,v)::rest=>match aT P t i,v.dW with
  |some (off,s),some zs=>if zs.length=s/\off+s<=cs.length then rP P t (cs.take off++zs++cs.drop (off+s)) rest else none
  |_,_=>none
theorem Dt{t:TypeId}{g:G}{place:Nat->Option (Nat×Nat)}(hp:∀i q,aT P t i=some q->place i=some q):∀(parts:List (Nat×Value)) (ps:List (Nat×AV)) (cs:Array Value) (xs zs:List AV),aV g cs.toList xs->(∀u∈cs.toList,u.oneCell'=true)->parts.map (·.1)=ps.map (·.1)->aV g (parts.map (·.2)) (ps.map (·.2))->rP P t xs ps=some zs->∃ds,Instr.fill place cs parts=some ds/\aV g ds.toList zs/\(∀u∈ds.toList,u.oneCell'=true)
 |[],[],cs,xs,zs,h1,h2,_,_,hf=>by simp only[rP,uH]at hf;subst hf;exact⟨cs,rfl,h1,h2⟩
 |[],_::_,_,_,_,_,_,hm,_,_=>by grind
 |_::_,[],_,_,_,_,_,hm,_,_=>by grind
 |(i,v)::parts,(i',x)::ps,cs,xs,zs,h1,h2,hm,hr,hf=>by
  simp only[dB,List.cons.injEq]at hm hr;obtain⟨rfl,hm⟩:=hm;cases hr with
  |cons hv hr=>
   simp only[rP]at hf;split at hf
   .rename_i off s ys hpl hys;split at hf
    .rename_i hc;obtain⟨Ox,RI⟩:=hc;obtain⟨q1,q2⟩:=rz hv hys;have Hl:=h1.length;have Ft:=q1.length;have hvs:v.cells.size=s:=by grind
     have hle:off+0+v.cells.toList.length<=cs.size:=by grind
     have iG:=EN v.cells.toList 0 off cs hle;simp only[qQ]at iG;have VR:v.cells.zipIdx.foldl (λcs (c,j)=>cs.setIfInBounds (off+j) c) cs=(v.cells.toList.zipIdx 0).foldl (λcs (p:Value×Nat)=>cs.setIfInBounds (off+p.2) p.1) cs:=by
      rw[<-Array.foldl_toList];simp
     generalize hd:(v.cells.toList.zipIdx 0).foldl (λcs (p:Value×Nat)=>cs.setIfInBounds (off+p.2) p.1) cs=ds at iG VR;have apH:aV g ds.toList (xs.take off++ys++xs.drop (off+s)):=by
      rw[iG];have e:v.cells.toList.length=s:=O;rw[e];exact((h1.take off).append q1).append (h1.drop (off+s))
     have apI:∀u∈ds.toList,u.oneCell'=true:=λu hu=>by
      grind
     obtain⟨es,e1,e2,e3⟩:=Dt hp parts ps ds _ zs apH apI hm hr hf
     grind [Instr.fill]
    grind
   grind
def gi(e:Operand->AV)(ps:Array (Nat×Operand)):List (Nat×AV):=ps.toList.map λp=>(p.1,e p.2)
theorem k_{g:G}{a:Act}{sl:Nat->AV}:∀(l:List Operand),(∀y∈l,bJ g (a.eval y) (bT sl y))->aV g (l.map a.eval) (l.map (bT sl))
 |[],_=> .nil
 |y::l,h=> .cons (h y H) (k_ l λz hz=>h z (by grind))
theorem Oc{t:TypeId}{zs:List PC}(h:bX P t=some zs):∃i z,P.info? t=some i/\i.zero=some z/\zs=z.cells.toList.map c1/\∀u∈z.cells.toList,u.oneCell'=true:=by
 unfold bX at h;split at h
 .rename_i z hz;split at h
  .rename_i hall;injection h with h;cases hi:P.info? t with
   |none=>grind
   |some i=>grind
  grind
 grind
def run_places{fs:Array Field}{w:World}{qs:List (Nat×Nat)}(h:fs.toList.mapM (λf=>(aW P f.type).map λs=>(f.offset,s))=some qs):(fs.mapM λ(f:Field)=>(do pure (f.offset,<-sizeOf f.type):Sem (Nat×Nat))).run P w= .ok qs.toArray w:=by
 rw[Array.mapM_eq_mapM_toList];have:∀(l:List Field) (qs:List (Nat×Nat)),l.mapM (λf=>(aW P f.type).map λs=>(f.offset,s))=some qs->((l.mapM λf=>(do pure (f.offset,<-sizeOf f.type):Sem (Nat×Nat))).run P w)= .ok qs w:=by
  intro l
  induction l with
  |nil=>simp
  |cons f l ih=>
   intro qs h;simp only[List.mapM_cons]at h⊢;cases hs:aW P f.type with
   |none=>grind
   |some s=>
    rw[hs]at h;cases hl:l.mapM (λf=>(aW P f.type).map λs=>(f.offset,s))with
    |none=>grind
    |some qs'=>
     rw[hl]at h;simp at h;subst h;have:=ih qs' hl;simp only[Sem.run_bind,run_sizeOf hs,Result.andThen_ok,Sem.run_pure,this]
 simp_all
def bL(P:Program)(t:TypeId):Bool:=match P.underlying t with
 |some (.struct fs)=>(fs.toList.mapM (λf=>(aW P f.type).map λs=>(f.offset,s))).isSome
 |some (.array _ e)=>(aW P e).isSome
 |_=>false
theorem ZW{t:TypeId}{ps:Array (Nat×Operand)}{z:List PC}{zs:List AV}{sl:Nat->AV}(ho:o.op= .build t ps)(hz:bX P t=some z)(hok:bL P t=true)(hf:rP P t (z.map .p) (gi (bT sl) ps)=some zs):dy P sl o (.agg false zs):=eU λw0 M0 F tb g a w hw h=>by
 obtain⟨i,zv,hi,Kf,rfl,hone⟩:=Oc hz;have hr0:aV g zv.cells.toList ((zv.cells.toList.map c1).map .p):=lY (wS g.M _ hone);have apJ:∀y∈(ps.toList.map (·.2)),bJ g (a.eval y) (bT sl y):=λy hy=>h y (by grind [Op.operands]);have apK:=k_ (a:=a) (sl:=sl) (ps.toList.map (·.2)) apJ;have m1:((ps.map λ(i,x)=>(i,a.eval x)).toList).map (·.1)=(gi (bT sl) ps).map (·.1):=by simp[gi]
 have m2:aV g (((ps.map λ(i,x)=>(i,a.eval x)).toList).map (·.2)) ((gi (bT sl) ps).map (·.2)):=by
  have e1:(((ps.map λ(i,x)=>(i,a.eval x)).toList).map (·.2))=(ps.toList.map (·.2)).map a.eval:=H;have e2:((gi (bT sl) ps).map (·.2))=(ps.toList.map (·.2)).map (bT sl):=by simp[gi]
  grind
 unfold bL at hok;split at hok
 .rename_i fs hU;obtain⟨qs,hqs⟩:=qt.1 hok;have hpl:∀i q,aT P t i=some q->qs.toArray[i]?=some q:=λi q hq=>by
   unfold aT at hq;rw[hU]at hq;simp only at hq;split at hq
   .rename_i f KQ;split at hq
    .rename_i s hs;injection hq with hq;subst hq;have key:∀(l:List Field) (qs:List (Nat×Nat)) (i:Nat),l.mapM (λf=>(aW P f.type).map λs=>(f.offset,s))=some qs->l[i]?=some f->qs[i]?=some (f.offset,s):=by
      intro l
      induction l with
      |nil=>simp
      |cons f' l ih=>
       intro qs i h hi;simp only[List.mapM_cons]at h;cases hs':aW P f'.type with
       |none=>grind
       |some s'=>
        rw[hs']at h;cases hl:l.mapM (λf=>(aW P f.type).map λs=>(f.offset,s))with
        |none=>grind
        |some qs'=>
         grind
     rw[uR];exact key fs.toList qs i hqs (by grind)
    grind
   grind
  obtain⟨ds,hd1,hd2,hd3⟩:=Dt (place:=(qs.toArray[·]?)) hpl _ _ _ _ _ hr0 hone m1 m2 hf;refine⟨.agg ds,?_,by have:=bJ.agg hd2 hd3;omega⟩;have hrun:=run_places (w:=w) hqs;simp only[execOp,ho,Instr.build,Sem.run_bind,zeroValue,typeInfo,run_program,hi,Kf,Sem.run_pure,Result.andThen_ok,run_underlying hU,hrun,hd1]
 .rename_i n e hU;obtain⟨s,hs⟩:=qt.1 hok;have hpl:∀i q,aT P t i=some q->(λi=>some (i*s,s)) i=some q:=λi q hq=>by
   grind [aT]
  obtain⟨ds,hd1,hd2,hd3⟩:=Dt (place:=λi=>some (i*s,s)) hpl _ _ _ _ _ hr0 hone m1 m2 hf;refine⟨.agg ds,?_,by have:=bJ.agg hd2 hd3;omega⟩;simp only[execOp,ho,Instr.build,Sem.run_bind,zeroValue,typeInfo,run_program,hi,Kf,Sem.run_pure,Result.andThen_ok,run_underlying hU,run_sizeOf hs,hd1]
 grind
end
end Go.Av
