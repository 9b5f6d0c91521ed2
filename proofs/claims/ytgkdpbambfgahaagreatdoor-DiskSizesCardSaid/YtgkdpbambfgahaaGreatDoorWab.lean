/- DiskSizes, part 2: an abstract interpreter over a program's form, with the proof that it is sound; it holds for any program that the model takes. -/
import Derived.Test.YtgkdpbambfgahaaGreatDoorWaa
set_option linter.all false
set_option maxRecDepth 100000
set_option maxHeartbeats 64000000
namespace Go.Av
open Go.RowKit
theorem O3{M:Mem}{v:Value}{x:PC}(h:gB M v x):gB M v x.Oe:=by
 unfold PC.Oe;split
 ·cases h;exact .dg
 ·exact h
theorem wG{M:Mem}:∀{vs:List Value} {xs:List PC},cP M vs xs->cP M vs (xs.map PC.Oe)
 |_,_,.nil=> .nil
 |_,_,.cons h hs=> .cons (O3 h) (wG hs)
theorem DS{M:Mem}{v:Value}{x:PC}(h:gB M v x):gB M v x.wk:=by
 unfold PC.wk;split
 ·cases h;exact .dg
 ·cases h with
  |agg hs h1=>exact .agg (wG hs) h1
  |o4 hs=>exact .o4 (wG hs)
 ·exact h
theorem Fz{M:Mem}:∀{vs:List Value} {xs:List PC},cP M vs xs->cP M vs (xs.map PC.wk)
 |_,_,.nil=> .nil
 |_,_,.cons h hs=> .cons (DS h) (Fz hs)
section
variable{P:Program}{sl:Nat->AV}{o:Oper}
theorem lD{α:Type}{a:Array α}(h:a.size=1)(d:α):a=#[a.getD 0 d]:=by
 match a,h with
 |⟨[x]⟩,_=>rfl
theorem afo{c:Call}(ho:o.op= .call c)(hc:c.callee= .builtin .len)(h1:c.args.size=1)(h2:c.argTypes.size=1){k:AV->Prop}(hk:td P (c.argTypes.getD 0 0) k (bH sl (c.args.getD 0 (.tmp 0))).nm):∃x,k x/\cO P sl o x:=by
 have ea:=lD h1 (.tmp 0);have et:=lD h2 0;generalize c.args.getD 0 (.tmp 0)=x at*;generalize c.argTypes.getD 0 0=t at*;have run:∀(a:Act) (w:World),(execOp a.eval o).run P w=((Builtin.len_ #[t] o.type #[a.eval x]).run P w).andThen fun v w=> .ok (.value v) w:=fun a w=>by
  simp only[execOp,ho,resolve,hc,ea,et,Sem.run_bind,Sem.run_pure,Result.andThen_ok,invoke,builtin,List.map_toArray,List.map_cons,List.map_nil]
 have hop:x∈o.op.operands:=by rw[ho];simp[Op.operands,Call.operands,hc,ea]
 have Kc:∀{v:Value} {M:Mem} {xs:List PC},gB M v (.sl xs)->∃a n c,v= .slice a n c/\n=xs.length:=fun h=>by
  cases h with
  |dg=>exact⟨_,_,_,rfl,rfl⟩
  |p_ a=>exact⟨_,_,_,rfl,rfl⟩
  |sl hn hc hm hsz hu h1c dS oe=>exact⟨_,_,_,rfl,by rw[<-hn,oe.length]⟩
 have Ke:∀(a:Option Addr) (n c:Nat) (w:World),(aJ P t).isSome=true->(Builtin.len_ #[t] o.type #[.slice a n c]).run P w= .ok (.int .i64 n) w:=fun a n c w h=>by
  obtain⟨s,hs⟩:=Option.isSome_iff_exists.1 h;unfold aJ at hs;split at hs
  ·rename_i e hU;simp[Builtin.len_,run_underlying hU,goInt]
  ·cases hs
 unfold td at hk;split at hk
 ·rename_i s hx;refine⟨_,hk.2,bK fun w0 M0 F tb g a w hw h=>?_⟩;have e1:=h x hop;rw[hx]at e1;have e1:=bI e1;refine⟨.int .i64 (bs s).length,?_,.p (.sc _ rfl)⟩;rw[run,e1,kE];simp[Builtin.len_,run_underlying (jW hk.1),goInt]
 ·rename_i hx;refine⟨_,hk.2,bK fun w0 M0 F tb g a w hw h=>?_⟩;have e1:=h x hop;rw[hx]at e1;have e1:=bf e1;refine⟨.int .i64 0,?_,.p (.sc _ rfl)⟩;rw[run];generalize a.eval x=v at e1;cases e1;rw[Ke _ _ _ _ hk.1];rfl
 ·rename_i xs hx;refine⟨_,hk.2,bK fun w0 M0 F tb g a w hw h=>?_⟩;have e1:=h x hop;rw[hx]at e1;obtain⟨ad,n,c,e2,e3⟩:=Kc (bf e1);refine⟨.int .i64 xs.length,?_,.p (.sc _ rfl)⟩;rw[run,e2,Ke _ _ _ _ hk.1,e3];rfl
 ·exact hk.elim
theorem BJ{α β:Type}{f:α->β}{a:List α}{u v:β}(h:a.map f=[u,v]):∃x y,a=[x,y]/\f x=u/\f y=v:=by
 match a,h with
 |[x,y],h=>simp at h;exact⟨x,y,rfl,h.1,h.2⟩
theorem afp{c:Call}{kd:IntKind}{m n:Int}(ho:o.op= .call c)(hc:c.callee= .builtin .min)(ha:c.args.toList.map (fun y=>(bH sl y).nm)=[.p (.sc (.int kd m)),.p (.sc (.int kd n))]):cO P sl o (.p (.sc (.int kd (if n<m then n else m)))):=by
 obtain⟨x,y,e,hx,hy⟩:=BJ ha;have ea:c.args=#[x,y]:=by rw[<-Array.toArray_toList (xs:=c.args),e]
 refine bK fun w0 M0 F tb g a w hw h=>?_;have e1:=h x (by rw[ho];simp[Op.operands,Call.operands,hc,ea]);rw[hx]at e1;have e2:=h y (by rw[ho];simp[Op.operands,Call.operands,hc,ea]);rw[hy]at e2;have e1:=bI e1;have e2:=bI e2;exact⟨.int kd (if n<m then n else m),by simp[execOp,ho,resolve,hc,ea,invoke,builtin,e1,e2,Builtin.min_,Builtin.min2],.p (.sc _ rfl)⟩
theorem afq{c:Call}{kd:IntKind}{m n:Int}(ho:o.op= .call c)(hc:c.callee= .builtin .max)(ha:c.args.toList.map (fun y=>(bH sl y).nm)=[.p (.sc (.int kd m)),.p (.sc (.int kd n))]):cO P sl o (.p (.sc (.int kd (if n>m then n else m)))):=by
 obtain⟨x,y,e,hx,hy⟩:=BJ ha;have ea:c.args=#[x,y]:=by rw[<-Array.toArray_toList (xs:=c.args),e]
 refine bK fun w0 M0 F tb g a w hw h=>?_;have e1:=h x (by rw[ho];simp[Op.operands,Call.operands,hc,ea]);rw[hx]at e1;have e2:=h y (by rw[ho];simp[Op.operands,Call.operands,hc,ea]);rw[hy]at e2;have e1:=bI e1;have e2:=bI e2;exact⟨.int kd (if n>m then n else m),by simp[execOp,ho,resolve,hc,ea,invoke,builtin,e1,e2,Builtin.max_,Builtin.max2],.p (.sc _ rfl)⟩
theorem fL{f:FuncId}(h:dV P f)(args:Array Value)(w:World):(callFunc f args).run P w= .ok (.enter f args) w:=by
 obtain⟨fn,h1,h2,h3⟩:=h;simp only[callFunc,Sem.run_bind,run_program,Result.andThen_ok,h1,h2,h3,Bool.false_eq_true,if_false];rfl
theorem Kf{c:Call}{f:Operand}{gf:FuncId}{caps xs:List PC}{r:PC}(ho:o.op= .call c)(hc:c.callee= .value f)(hf:(bH sl f).nm= .p (.fn (.func gf) caps))(hx:dR (c.args.toList.map fun y=>(bH sl y).nm)=some xs)(hp:aB P gf (xs.map PC.wk++caps) r):cO P sl o (.p r):=by
 intro w0 M0 F tb g a w hw hop K Q hK;have ox:∀y,y∈o.op.operands->aZ g (a.eval y) ((bH sl y).nm):=fun y hy=>bU (iq y fun t e=>hop t (e▸hy));have h1:=ox f (by rw[ho];simp[Op.operands,Call.operands,hc]);rw[hf]at h1;have gD:=bf h1;generalize hv:a.eval f=v at gD;cases gD with
 |fn mq=>
  rename_i cv;have hargs:=kJ (g:=g) (a:=a) c.args.toList xs (fun y hy=>ox y (by rw[ho];simp[Op.operands,Call.operands,hc];exact Or.inr (by simpa using hy))) hx;have hall:=(Fz hargs).append mq;have e:(c.args.map a.eval)=(c.args.toList.map a.eval).toArray:=by rw[<-Array.toList_map,Array.toArray_toList]
  have hrun:(execOp a.eval o).run P w= .ok (.enter gf ((c.args.toList.map a.eval)++cv).toArray) w:=by
   simp[execOp,ho,resolve,hc,hv,Deferred.ofValue,invoke,fL hp.1]
  unfold Oper.wp;rw[hrun];refine(hp.2 g.M w _ hw.holds hall).mono ?_;rintro e' w' ⟨v',N,rfl,hr,hH,hM,hO,hB⟩;exact hK v' w' N hM (hw.later hM hH hO hB) (.p hr)
theorem lU{lo:Option AV}{d l:Nat}:nP d lo=some l->nQ lo->match lo with|none=>l=d|some (.p (.sc (.int _ i)))=>i=(l:Int)|_=>False:=by
 intro h hc;unfold nP at h;split at h
 ·injection h with h;exact h.symm
 ·injection h with h;simp only[nQ]at hc;first|omega|(simp only;omega)
 ·cases h
theorem afr{t:TypeId}{x:Operand}{i id off o' s:Nat}{ag:Bool}(ho:o.op= .fieldAddr t x i)(hx:bH sl x= .obj id off)(hf:dc P t i=some (o',s,ag))(hs:s≠0):cO P sl o (.obj id (off+o')):=dj fun w0 M0 F tb g a w hw h=>by
 have h1:=h x (by simp[ho,Op.operands]);rw[hx]at h1;generalize hv:a.eval x=v at h1;cases h1 with
 |obj e=>
  rename_i b c;refine⟨.pointer (some ⟨b,off+o',none⟩),?_,.obj e⟩;unfold dc at hf;split at hf
  ·rename_i fs hU;split at hf
   ·rename_i f G7;split at hf
    ·rename_i s' a' hs' G5;injection hf with hf;obtain⟨rfl,rfl,rfl⟩:=by simpa using hf
     simp[execOp,ho,hv,Instr.fieldAt,run_underlying hU,G7,Instr.sureAddr,fieldPlace,run_sizeOf hs',hs,Addr.add_lit]
    ·cases hf
   ·cases hf
  ·cases hf
theorem afs{t:TypeId}{x i:Operand}{id off m s:Nat}{kd:IntKind}{n:Int}{ag:Bool}(ho:o.op= .indexAddr t x i)(hx:bH sl x= .obj id off)(hi:(bH sl i).nm= .p (.sc (.int kd n)))(hf:gL P t=some (m,s,ag))(h0:0<=n)(hn:n<(m:Int)):cO P sl o (.obj id (off+n.toNat*s)):=dj fun w0 M0 F tb g a w hw h=>by
 have h1:=h x (by simp[ho,Op.operands]);rw[hx]at h1;have h2:=bU (h i (by simp[ho,Op.operands]));rw[hi]at h2;have yZ:=bf h2;generalize hv:a.eval x=v at h1;generalize we:a.eval i=v2 at yZ;cases yZ;cases h1 with
 |obj e=>
  rename_i b c;refine⟨.pointer (some ⟨b,off+n.toNat*s,none⟩),?_,.obj e⟩;unfold gL at hf;split at hf
  ·rename_i m' e hU;split at hf
   ·rename_i s' a' hs' G5;injection hf with hf;obtain⟨rfl,rfl,rfl⟩:=by simpa using hf
    simp[execOp,ho,hv,we,Instr.indexAt,asIntOf,run_underlying hU,Instr.sureAddr,h0,hn,run_sizeOf hs',Addr.add_lit]
   ·cases hf
  ·cases hf
theorem rf{k:AV->Prop}(h:Z9 P o (bH sl) k):∃x,k x/\cO P sl o x:=by
 unfold Z9 G8 at h;split at h
 ·rename_i x ho;exact⟨_,h,Kg (.inl ho)⟩
 ·rename_i x ho;exact⟨_,h,Kg (.inr ho)⟩
 ·rename_i c x y ho;unfold ri at h;split at h
  ·rename_i t hc;exact⟨_,h,VK ho hc⟩
  ·exact h.elim
 ·rename_i t x ho;unfold G9 at h;split at h
  ·rename_i y hx;exact⟨_,h,afu ho hx⟩
  ·exact h.elim
 ·rename_i t x ho;unfold uz at h;split at h
  ·rename_i y hx;exact⟨_,h.2,VL ho hx h.1⟩
  ·exact h.elim
 ·rename_i t x i ho;unfold TB at h;split at h
  ·rename_i id off hx;split at h
   ·rename_i o' s ag h1;exact⟨_,h.2,afr ho hx h1 h.1⟩
   ·exact h.elim
  ·unfold mR at h;split at h
   ·rename_i xs hx;split at h
    ·rename_i off s a h1;split at h
     ·rename_i y h2;exact⟨_,h.2,BK ho hx h1 h2 h.1⟩
     ·exact h.elim
    ·exact h.elim
   ·exact h.elim
 ·rename_i t x i ho;unfold wH at h;split at h
  ·rename_i xs hx;split at h
   ·rename_i off s a h1;split at h
    ·rename_i y h2;exact⟨_,h,O4 ho hx h1 h2⟩
    ·exact h.elim
   ·exact h.elim
  ·exact h.elim
 ·rename_i t x i ho;unfold eS at h;split at h
  ·rename_i xs kd n hx hi;obtain⟨h0,h⟩:=h;split at h
   ·rename_i y hy;exact⟨_,h.2,BL ho hx hi (by omega) hy h.1⟩
   ·exact h.elim
  ·rename_i xs kd n hx hi;split at h
   ·rename_i m s a hf;obtain⟨h0,hn,h⟩:=h;split at h
    ·rename_i y hy;exact⟨_,h,DT ho hx hi hf h0 hn hy⟩
    ·exact h.elim
   ·exact h.elim
  ·exact h.elim
 ·rename_i t x i ho;unfold qh at h;split at h
  ·rename_i s kd n hx hi;obtain⟨h0,h1,h⟩:=h;split at h
   ·rename_i c hc;exact⟨_,h,O5 ho hx hi (by omega) h1 hc⟩
   ·exact h.elim
  ·rename_i xs kd n hx hi;split at h
   ·rename_i m s a hf;obtain⟨h0,hn,h⟩:=h;split at h
    ·rename_i y hy;exact⟨_,h,DU ho hx hi hf h0 hn hy⟩
    ·exact h.elim
   ·exact h.elim
  ·exact h.elim
 ·rename_i t x lo hi ho;unfold fM at h;split at h
  ·rename_i s hx;obtain⟨h1,h⟩:=h;unfold Ac at h;split at h
   ·rename_i l hh e1 e2;obtain⟨c1,c2,h4,h5,h6⟩:=h;exact⟨_,h6,JA ho hx h1 (lU e1 c1) (lU e2 c2) h4 h5⟩
   ·exact h.elim
  ·rename_i xs hx;obtain⟨h1,hw,h⟩:=h;unfold Ac at h;split at h
   ·rename_i l hh e1 e2;obtain⟨c1,c2,h4,h5,h6⟩:=h;exact⟨_,h6,JC ho hx h1 hw (lU e1 c1) (lU e2 c2) h4 h5⟩
   ·exact h.elim
  ·exact h.elim
 ·rename_i op t x y t' ho;unfold bM at h;split at h
  ·rename_i u v hx hy;obtain⟨r,h1,h2⟩:=Oy (P:=P) ho hx hy h;exact⟨_,h1,h2⟩
  ·exact h.elim
 ·rename_i op t x ho;unfold rj at h;split at h
  ·rename_i b hx;obtain⟨rfl,h⟩:=h;exact⟨_,h,afv ho hx⟩
  ·rename_i c n hx;rcases h with⟨rfl,h⟩|⟨rfl,h⟩
   ·exact⟨_,h,afw ho hx⟩
   ·exact⟨_,h,afx ho hx⟩
  ·exact h.elim
 ·rename_i s d x ho;unfold nE at h;split at h
  ·rename_i kd n hx;obtain⟨h1,h⟩:=h;split at h
   ·rename_i c h2;exact⟨_,h,O6 ho hx h1 h2⟩
   ·exact h.elim
  ·rename_i b hx;obtain⟨h1,h⟩:=h;split at h
   ·rename_i h2;exact⟨_,h,Kh ho hx h1 h2⟩
   ·obtain⟨h2,h3,h4,h5⟩:=h;exact⟨_,h5,Ki ho hx h3 h2 h4⟩
  ·rename_i hx;exact⟨_,h.2.2,G_ ho hx h.1 h.2.1⟩
  ·rename_i xs hx;obtain⟨h1,h2,l,rfl,h3⟩:=h;exact⟨_,h3,Kj ho hx h1 h2⟩
  ·exact h.elim
 ·rename_i t x ho;unfold qi at h;split at h
  ·rename_i id off hx;exact⟨_,h.2.2,Kk ho hx h.1 h.2.1⟩
  ·unfold Kl at h;split at h
   ·rename_i v hx;exact⟨_,h.2.2,O7 ho hx h.1 h.2.1⟩
   ·exact h.elim
 ·rename_i f fs cs ho;rcases h with⟨rfl,h⟩|⟨_,rfl,h⟩
  ·unfold VM at h;split at h
   ·rename_i xs h1;exact⟨_,h,amB ho h1⟩
   ·exact⟨_,h,afy ho⟩
  ·exact⟨_,h,afz ho⟩
 ·rename_i x i ho;unfold oy at h;split at h
  ·rename_i xs hx;split at h
   ·rename_i y h1;exact⟨_,h,He ho hx h1⟩
   ·exact h.elim
  ·exact h.elim
 ·rename_i x ho;unfold Km at h;split at h
  ·rename_i y hx;exact⟨_,h,VN ho hx⟩
  ·rename_i f ys hx;exact⟨_,h,VO ho hx⟩
  ·exact h.elim
 ·rename_i t x ho;unfold Z_ at h;split at h
  ·rename_i xs hx;unfold saA at h;split at h
   ·rename_i m s ag hA;obtain⟨rfl,h1,h2,h3,h⟩:=h;exact⟨_,h,afA ho hx hA h1 h2 h3⟩
   ·exact h.elim
  ·exact h.elim
 ·rename_i c ho;split at h
  ·rename_i hc;obtain⟨h1,h2,h⟩:=h;exact afo ho hc h1 h2 h
  ·rename_i hc;unfold DV at h;split at h
   ·rename_i a x b y ha;obtain⟨rfl,h⟩:=h;exact⟨_,h,afp ho hc ha⟩
   ·exact h.elim
  ·rename_i hc;unfold DW at h;split at h
   ·rename_i a x b y ha;obtain⟨rfl,h⟩:=h;exact⟨_,h,afq ho hc ha⟩
   ·exact h.elim
  ·exact h.elim
  ·rename_i f hc;unfold tf at h;split at h
   ·rename_i gf caps hf;split at h
    ·rename_i xs hxs;obtain⟨r,h1,h2⟩:=h;exact⟨_,h2,Kf ho hc hf hxs h1⟩
    ·exact h.elim
   ·exact h.elim
  ·exact h.elim
 ·exact h.elim
end
section
variable{P:Program}{w0:World}{M0:Mem}{F:Nat->Prop}{tb:Tb}{g:G}{w w':World}
theorem bg{α:Type}{t k:Nat}{v:α}{l:List (Nat×α)}:lk t ((k,v)::l)=if t=k then some v else lk t l:=rfl
theorem eJ{b n cap c:Nat}(h:dQ (.slice (some ⟨b,0,none⟩) n cap)=some c):c=b:=by
 simp only[dQ]at h;split at h
 ·injection h with h;exact h.symm
 ·cases h
theorem cZ{b n cap:Nat}(h:n<cap):dQ (.slice (some ⟨b,0,none⟩) n cap)=some b:=by simp[dQ,h]
theorem f_{a:Option Addr}{n:Nat}:dQ (.slice a n n)=none:=by cases a<;>simp[dQ]
theorem aR.sub{aO:Tb}(h:aR w0 M0 F tb g w)(hb:∀i o,lk i aO.bx=some o->lk i tb.bx=some o)(hr:∀i r,lk i aO.rw=some r->lk i tb.rw=some r)(hn:tb.nx<=aO.nx):aR w0 M0 F aO g w:=⟨h.holds,h.keep,h.old,h.BD,fun i o e=>h.boxes i o (hb i o e),fun i el sz e=>h.rows i el sz (hr i _ e),fun i j o p b c b' c' e1 e2=>h.fG i j o p b c b' c' (hb i o e1) (hb j p e2),fun i j r s u v b e1 e2=>h.gJ i j r s u v b (hr i r e1) (hr j s e2),fun i j o r b c v e1 e2=>h.eX i j o r b c v (hb i o e1) (hr j r e2),fun i hi=>h.fresh i (Nat.le_trans hn hi)⟩
theorem aR.J4(h:aR w0 M0 F tb g w){i:Nat}{o:Ob}{b c:Nat}(e:lk i tb.bx=some o)(hb:g.ob i=some (b,c))(hc:0<c):b<w.heap.size:=by
 obtain⟨cur,_,_,⟨_,_,h4,_⟩,_⟩:=(h.boxes i o e).real hb hc;exact o3 h4
theorem aR.Ft(h:aR w0 M0 F tb g w){i:Nat}{r:TypeId×Nat}{v:Value}{b:Nat}(e:lk i tb.rw=some r)(hv:g.rv i=some v)(hb:dQ v=some b):b<w.heap.size:=by
 obtain⟨v',h1,h2⟩:=h.rows i r.1 r.2 e;rw[h1]at hv;injection hv with hv;subst hv;rcases h2 with⟨a,n,rfl⟩|⟨b',n,cap,cur,rfl,_,⟨_,_,h3,_⟩,_⟩
 ·cases a<;>simp[dQ]at hb
 ·simp only[dQ]at hb;split at hb
  ·injection hb with hb;subst hb;exact o3 h3
  ·cases hb
theorem aR.yU(h:aR w0 M0 F tb g w){i:Nat}{p:Nat×Nat}(e:g.ob i=some p):i<tb.nx:=by
 rcases Nat.lt_or_ge i tb.nx with h'|h'
 ·exact h'
 ·rw[(h.fresh i h').1]at e;cases e
theorem aR.mh(h:aR w0 M0 F tb g w){i:Nat}{v:Value}(e:g.rv i=some v):i<tb.nx:=by
 rcases Nat.lt_or_ge i tb.nx with h'|h'
 ·exact h'
 ·rw[(h.fresh i h').2]at e;cases e
def G.di(g:G)(n b c:Nat):G:={g with ob:=fun i=>if i=n then some (b,c)else g.ob i}
def G.cX(g:G)(n:Nat)(v:Value):G:={g with rv:=fun i=>if i=n then some v else g.rv i}
def Tb.aT(tb:Tb)(o:Ob):Tb:=⟨(tb.nx,o)::tb.bx,tb.rw,tb.nx+1⟩
def Tb.bX(tb:Tb)(el:TypeId)(sz:Nat):Tb:=⟨tb.bx,(tb.nx,el,sz)::tb.rw,tb.nx+1⟩
def Tb.oq(tb:Tb)(id:Nat):Tb:={tb with rw:=del id tb.rw}
def Tb.cE(tb:Tb)(id:Nat):Tb:={tb with bx:=del id tb.bx}
def Tb.aQ(tb:Tb)(id:Nat)(o:Ob):Tb:={tb with bx:=(id,o)::del id tb.bx}
theorem aR.oq(h:aR w0 M0 F tb g w)(id:Nat):aR w0 M0 F (tb.oq id) g w:=h.sub (fun _ _ e=>e) (fun i r e=>by simp only[Tb.oq,cD]at e;split at e;cases e;exact e) (Nat.le_refl _)
theorem aR.cE(h:aR w0 M0 F tb g w)(id:Nat):aR w0 M0 F (tb.cE id) g w:=h.sub (fun i r e=>by simp only[Tb.cE,cD]at e;split at e;cases e;exact e) (fun _ _ e=>e) (Nat.le_refl _)
theorem aR.kF(h:aR w0 M0 F tb g w)(b c:Nat):g.le (g.di tb.nx b c):=⟨Mem.le_refl _,fun i p e=>by have:=h.yU e;simp only[G.di];rw[if_neg (by omega)];exact e,fun _ _ e=>e⟩
theorem aR.vP(h:aR w0 M0 F tb g w)(v:Value):g.le (g.cX tb.nx v):=⟨Mem.le_refl _,fun _ _ e=>e,fun i p e=>by have:=h.mh e;simp only[G.cX];rw[if_neg (by omega)];exact e⟩
theorem aR.J5(h:aR w0 M0 F tb g w){cur:Array Value}{o:Ob}{c:Nat}(hB:Below w.heap.size w w')(hb:∃t fz,w'.heap[w.heap.size]?=some (.cells cur t fz)/\Oc o.el t cur.size fz)(hs:cur.size=c*o.sz)(hc:c<=maxLen)(hl:o.xs.length<=cur.size)(hr:aL g (cur.toList.take o.xs.length) o.xs)(h1:∀v∈cur.toList,v.oneCell'=true):aR w0 M0 F (tb.aT o) (g.di tb.nx w.heap.size c) w':=by
 have hH:fT w' g.M:=⟨fun b o v e=>by
  have hlt:=h.holds.lt e;rw[hB.cell (p:=⟨b,o,none⟩) hlt];exact h.holds b o v e,h.holds.g⟩
 have hl':=h.later (Mem.le_refl _) hH (fun _ _=>rfl) hB;have hle:=h.kF w.heap.size c;have hold:∀i p,lk i tb.bx=some p->i≠tb.nx:=fun i p e=>by
  obtain⟨b,c,e1,_⟩:=h.boxes i p e;have:=h.yU e1;omega
 have hM0:∀off,g.M w.heap.size off=none:=fun off=>by
  cases e:g.M w.heap.size off with
  |none=>rfl
  |some v=>have:=h.holds.lt e;omega
 refine⟨hH,hl'.keep,hl'.old,hl'.BD,fun i p e=>?_,fun i el sz e=>?_,?_,?_,?_,?_⟩
 ·simp only[Tb.aT,bg]at e;split at e
  ·rename_i e';injection e with e;subst e;subst e';refine⟨w.heap.size,c,by simp[G.di],fun _=>⟨cur,.inl h.keep.size,hM0,hb,Nat.le_of_eq hs.symm,hc,hl,hr.mono hle,h1⟩,fun h0=>?_⟩;subst h0;simp only[Nat.zero_mul]at hs;exact List.eq_nil_of_length_eq_zero (by omega)
  ·rename_i e';obtain⟨b,c',e1,hr',h0⟩:=hl'.boxes i p e;refine⟨b,c',by simp only[G.di];rw[if_neg e'];exact e1,fun G2=>?_,h0⟩;obtain⟨cur',e2,e3,e4,e5,e6,e7,e8,e9⟩:=hr' G2;exact⟨cur',e2,e3,e4,e5,e6,e7,e8.mono hle,e9⟩
 ·obtain⟨v,e1,e2⟩:=hl'.rows i el sz e;exact⟨v,e1,e2⟩
 ·intro i j p q b c1 b' c2 e1 e2 hij e3 e4 p1 p2;simp only[Tb.aT,bg]at e1 e2;simp only[G.di]at e3 e4;split at e1
  ·rename_i hi;rw[if_pos hi]at e3;injection e3 with e3;injection e3 with e3 _;subst e3;split at e2
   ·rename_i hj;omega
   ·rename_i hj;rw[if_neg hj]at e4;have:=h.J4 e2 e4 p2;omega
  ·rename_i hi;rw[if_neg hi]at e3;split at e2
   ·rename_i hj;rw[if_pos hj]at e4;injection e4 with e4;injection e4 with e4 _;subst e4;have:=h.J4 e1 e3 p1;omega
   ·rename_i hj;rw[if_neg hj]at e4;exact h.fG i j p q b c1 b' c2 e1 e2 hij e3 e4 p1 p2
 ·exact h.gJ
 ·intro i j p r b c1 v e1 e2 e3 e4 p1 e5;simp only[Tb.aT,bg]at e1;simp only[G.di]at e3;split at e1
  ·rename_i hi;rw[if_pos hi]at e3;injection e3 with e3;injection e3 with e3 _;subst e3;have:=h.Ft e2 e4 e5;omega
  ·rename_i hi;rw[if_neg hi]at e3;exact h.eX i j p r b c1 v e1 e2 e3 e4 p1 e5
 ·intro i hi;simp only[Tb.aT]at hi;have:=h.fresh i (by omega);simp only[G.di];rw[if_neg (by omega)];exact this
theorem aR.yV(h:aR w0 M0 F tb g w){cur:Array Value}{o:Ob}{c:Nat}(hB:Below w.heap.size w w')(hb:w'.heap[w.heap.size]?=some (.cells cur o.el (0,0)))(hs:cur.size=c*o.sz)(hc:c<=maxLen)(hl:o.xs.length<=cur.size)(hr:aL g (cur.toList.take o.xs.length) o.xs)(h1:∀v∈cur.toList,v.oneCell'=true):aR w0 M0 F (tb.aT o) (g.di tb.nx w.heap.size c) w':=h.J5 hB ⟨_,_,hb,.inl ⟨rfl,rfl⟩⟩ hs hc hl hr h1
theorem aR.afl(h:aR w0 M0 F tb g w){cur:Array Value}{el sz n cap:Nat}(hB:Below w.heap.size w w')(hb:w'.heap[w.heap.size]?=some (.cells cur el (0,0)))(hs:cur.size=cap*sz)(hn:n<=cap)(hc:cap<=maxLen)(hsz:0<sz):let N:=g.M.ext w.heap.size (cur.toList.take (n*sz));aR w0 M0 F (tb.bX el sz) ((g.with N).cX tb.nx (.slice (some ⟨w.heap.size,0,none⟩) n cap)) w'/\g.M.le N/\At N w.heap.size 0 (cur.toList.take (n*sz)):=by
 intro N;have hM:g.M.le N:=fun b o v e=>by
  have:=h.holds.lt e;show(if b=w.heap.size then _ else _)=_;rw[if_neg (by omega)];exact e
 have hO:∀b,b<w.heap.size->N b=g.M b:=fun b hb'=>by funext o;show(if b=w.heap.size then _ else _)=_;rw[if_neg (by omega)]
 have dS:At N w.heap.size 0 (cur.toList.take (n*sz)):=fun j v e=>by show(if w.heap.size=w.heap.size then _ else _)=_;rw[if_pos rfl,Nat.zero_add];exact e
 have hH:fT w' N:=⟨fun b o v e=>by
  by_cases hbw:b=w.heap.size
  ·subst hbw;have e':(cur.toList.take (n*sz))[o]?=some v:=by
    have e2:(if w.heap.size=w.heap.size then(cur.toList.take (n*sz))[o]? else g.M w.heap.size o)=some v:=e;rwa[if_pos rfl]at e2
   rw[List.getElem?_take]at e';split at e'
   ·unfold World.cell?;rw[hb];simpa using e'
   ·cases e'
  ·have e':g.M b o=some v:=by
    have e2:(if b=w.heap.size then(cur.toList.take (n*sz))[o]? else g.M b o)=some v:=e;rwa[if_neg hbw]at e2
   have hlt:=h.holds.lt e';rw[hB.cell (p:=⟨b,o,none⟩) hlt];exact h.holds b o v e',h.holds.g.mono hM⟩
 have hl':=h.later hM hH hO hB;have hle:=hl'.vP (.slice (some ⟨w.heap.size,0,none⟩) n cap);refine⟨⟨hH,hl'.keep,hl'.old,hl'.BD,fun i p e=>?_,fun i Tx sz' e=>?_,?_,?_,?_,?_⟩,hM,dS⟩
 ·obtain⟨b,c',e1,hr',h0⟩:=hl'.boxes i p e;refine⟨b,c',e1,fun G2=>?_,h0⟩;obtain⟨cur',e2,e3,e4,e5,e6,e7,e8,e9⟩:=hr' G2;exact⟨cur',e2,e3,e4,e5,e6,e7,e8.mono hle,e9⟩
 ·simp only[Tb.bX,bg]at e;split at e
  ·rename_i e';subst e';injection e with e;injection e with e1 e2;subst e1;subst e2;refine⟨.slice (some ⟨w.heap.size,0,none⟩) n cap,by simp[G.cX],?_⟩;rcases Nat.lt_or_ge n cap with hlt|hge
   case inr=>
    obtain rfl:n=cap:=by omega
    exact .inl ⟨_,_,rfl⟩
   refine .inr ⟨w.heap.size,n,cap,cur,rfl,.inl h.keep.size,⟨_,_,hb,.inl ⟨rfl,rfl⟩⟩,Nat.le_of_eq hs.symm,hlt,hc,hsz,dS,?_⟩;intro o v e;have e2:(if w.heap.size=w.heap.size then(cur.toList.take (n*sz))[o]? else g.M w.heap.size o)=some v:=e;rw[if_pos rfl]at e2;have:=(List.getElem?_eq_some_iff.1 e2).1;simp at this;omega
  ·rename_i e';obtain⟨v,e1,e2⟩:=hl'.rows i Tx sz' e;exact⟨v,by simp only[G.cX];rw[if_neg e'];exact e1,e2⟩
 ·exact h.fG
 ·intro i j r s u v b e1 e2 hij e3 e4 e5;simp only[Tb.bX,bg]at e1 e2;simp only[G.cX]at e3 e4;split at e1
  ·rename_i hi;rw[if_pos hi]at e3;injection e3 with e3;subst e3;obtain rfl:=eJ e5;split at e2
   ·rename_i hj;omega
   ·rename_i hj;rw[if_neg hj]at e4;intro e6;have:=h.Ft e2 e4 e6;omega
  ·rename_i hi;rw[if_neg hi]at e3;have hlt:=h.Ft e1 e3 e5;split at e2
   ·rename_i hj;rw[if_pos hj]at e4;injection e4 with e4;subst e4;intro e6;have:=eJ e6;omega
   ·rename_i hj;rw[if_neg hj]at e4;exact h.gJ i j r s u v b e1 e2 hij e3 e4 e5
 ·intro i j p r b c1 v e1 e2 e3 e4 p1;simp only[Tb.bX,bg]at e2;simp only[G.cX]at e4;have hlt:=h.J4 e1 e3 p1;split at e2
  ·rename_i hj;rw[if_pos hj]at e4;injection e4 with e4;subst e4;intro e6;have:=eJ e6;omega
  ·rename_i hj;rw[if_neg hj]at e4;exact h.eX i j p r b c1 v e1 e2 e3 e4 p1
 ·intro i hi;simp only[Tb.bX]at hi;have:=h.fresh i (by omega);simp only[G.cX];rw[if_neg (by omega)];exact this
theorem aR.qb(h:aR w0 M0 F tb g w)(el sz:Nat)(a:Option Addr)(m:Nat):aR w0 M0 F (tb.bX el sz) (g.cX tb.nx (.slice a m m)) w:=by
 have hle:=h.vP (.slice a m m);refine⟨h.holds,h.keep,h.old,h.BD,fun i p e=>?_,fun i Tx sz' e=>?_,h.fG,?_,?_,?_⟩
 ·obtain⟨b,c',e1,hr',h0⟩:=h.boxes i p e;refine⟨b,c',e1,fun G2=>?_,h0⟩;obtain⟨cur',e2,e3,e4,e5,e6,e7,e8,e9⟩:=hr' G2;exact⟨cur',e2,e3,e4,e5,e6,e7,e8.mono hle,e9⟩
 ·simp only[Tb.bX,bg]at e;split at e
  ·rename_i e';subst e';exact⟨.slice a m m,by simp[G.cX],.inl ⟨a,m,rfl⟩⟩
  ·rename_i e';obtain⟨v,e1,e2⟩:=h.rows i Tx sz' e;exact⟨v,by simp only[G.cX];rw[if_neg e'];exact e1,e2⟩
 ·intro i j r s u v b e1 e2 hij e3 e4 e5;simp only[Tb.bX,bg]at e1 e2;simp only[G.cX]at e3 e4;split at e1
  ·rename_i hi;rw[if_pos hi]at e3;injection e3 with e3;subst e3;rw[f_]at e5;cases e5
  ·rename_i hi;rw[if_neg hi]at e3;split at e2
   ·rename_i hj;rw[if_pos hj]at e4;injection e4 with e4;subst e4;rw[f_];exact fun h=>by cases h
   ·rename_i hj;rw[if_neg hj]at e4;exact h.gJ i j r s u v b e1 e2 hij e3 e4 e5
 ·intro i j p r b c1 v e1 e2 e3 e4 p1;simp only[Tb.bX,bg]at e2;simp only[G.cX]at e4;split at e2
  ·rename_i hj;rw[if_pos hj]at e4;injection e4 with e4;subst e4;rw[f_];exact fun h=>by cases h
  ·rename_i hj;rw[if_neg hj]at e4;exact h.eX i j p r b c1 v e1 e2 e3 e4 p1
 ·intro i hi;simp only[Tb.bX]at hi;have:=h.fresh i (by omega);simp only[G.cX];rw[if_neg (by omega)];exact this
theorem iU{b:Nat}{cur':Array Value}(k:Nat)(h:k≠b):(w.setRow b cur').heap[k]?=w.heap[k]?:=setRow_other w b k cur' h
theorem aR.Ty(h:aR w0 M0 F tb g w){id b c:Nat}{o o':Ob}{cur cur':Array Value}(e:lk id tb.bx=some o)(hg:g.ob id=some (b,c))(hc0:0<c){tt tt':TypeId}{fz fz':Nat×Nat}(hb:w.heap[b]?=some (.cells cur tt fz))(ho1:w'.os=w.os)(ho2:w'.tape=w.tape)(ho3:w'.output=w.output)(ho4:w'.heap.size=w.heap.size)(OR:∀k,k≠b->w'.heap[k]?=w.heap[k]?)(hb':w'.heap[b]?=some (.cells cur' tt' fz'))(hs:cur'.size=cur.size)(hel:Oc o.el tt cur.size fz->Oc o'.el tt' cur'.size fz')(hsz:o'.sz=o.sz)(hl:o'.xs.length<=cur'.size)(hr:aL g (cur'.toList.take o'.xs.length) o'.xs)(h1:∀v∈cur'.toList,v.oneCell'=true):aR w0 M0 F (tb.aQ id o') g w':=by
 obtain⟨amz,e2,e3,⟨tt1,fz1,e4,efz⟩,e5,e6,_⟩:=(h.boxes id o e).real hg hc0;rw[hb]at e4;injection e4 with e4;injection e4 with e4 e4t yA;subst e4;subst yA;subst e4t;have hne:∀i p b' c',lk i tb.bx=some p->i≠id->g.ob i=some (b',c')->0<c'->b'≠b:=fun i p b' c' e' hi hg' hp=>h.fG i id p o b' c' b c e' e hi hg' hg hp hc0;refine⟨⟨fun b' off v em=>?_,h.holds.g⟩,⟨ho1.trans h.keep.os,ho2.trans h.keep.tape,ho3.trans h.keep.output,by rw[ho4];exact h.keep.size,fun k hk hf=>?_⟩,h.old,h.BD,fun i p ei=>?_,fun i el sz ei=>?_,?_,h.gJ,?_,h.fresh⟩
 ·have Od:b'≠b:=fun hh=>by subst hh;rw[e3 off]at em;cases em
  have:=World.cell?_of_block (w:=w) (w':=w') (a:=⟨b',off,none⟩) (OR b' Od);rw[this];exact h.holds b' off v em
 ·have hkb:k≠b:=fun hh=>by
   subst hh;rcases e2 with e2|e2
   ·omega
   ·exact hf e2
  rw[OR k hkb];exact h.keep.block k hk hf
 ·simp only[Tb.aQ,bg]at ei;split at ei
  ·rename_i hi;subst hi;injection ei with ei;subst ei;exact⟨b,c,hg,fun _=>⟨cur',e2,e3,⟨tt',fz',hb',hel efz⟩,by rw[hs,hsz];exact e5,e6,hl,hr,h1⟩,fun h0=>by omega⟩
  ·rename_i hi;rw[cD,if_neg hi]at ei;obtain⟨b1,c1,f1,fr,f0⟩:=h.boxes i p ei;refine⟨b1,c1,f1,fun hp=>?_,f0⟩;obtain⟨ou,f2,f3,f4,f5,f6,f7,f8,f9⟩:=fr hp;exact⟨ou,f2,f3,by rw[OR b1 (hne i p b1 c1 ei hi f1 hp)];exact f4,f5,f6,f7,f8,f9⟩
 ·obtain⟨v,f1,f2⟩:=h.rows i el sz ei;refine⟨v,f1,f2.imp (fun h=>h) ?_⟩;rintro⟨b1,n,cap,ou,f3,f4,f5,f6,f7,f8,f9,f10,f11⟩;have:b1≠b:=fun hh=>h.eX id i o _ b c v e ei hg f1 hc0 (by subst f3;subst hh;exact cZ f7);exact⟨b1,n,cap,ou,f3,f4,by rw[OR b1 this];exact f5,f6,f7,f8,f9,f10,f11⟩
 ·intro i j p q b1 c1 b2 c2 ei ej hij;simp only[Tb.aQ,bg]at ei ej;have toOld:∀i p,(if i=id then some o' else lk i (del id tb.bx))=some p->∃p',lk i tb.bx=some p':=fun i p ei=>by
   split at ei
   ·rename_i hi;subst hi;exact⟨o,e⟩
   ·rename_i hi;rw[cD,if_neg hi]at ei;exact⟨p,ei⟩
  obtain⟨p',ep⟩:=toOld i p ei;obtain⟨q',eq⟩:=toOld j q ej;exact h.fG i j p' q' b1 c1 b2 c2 ep eq hij
 ·intro i j p r b1 c1 v ei ej;simp only[Tb.aQ,bg]at ei;split at ei
  ·rename_i hi;subst hi;exact h.eX i j o r b1 c1 v e ej
  ·rename_i hi;rw[cD,if_neg hi]at ei;exact h.eX i j p r b1 c1 v ei ej
theorem aR.aQ(h:aR w0 M0 F tb g w){id b c:Nat}{o o':Ob}{cur cur':Array Value}(e:lk id tb.bx=some o)(hg:g.ob id=some (b,c))(hc0:0<c){tt:TypeId}{fz:Nat×Nat}(hb:w.heap[b]?=some (.cells cur tt fz))(hs:cur'.size=cur.size)(hel:o'.el=o.el)(hsz:o'.sz=o.sz)(hl:o'.xs.length<=cur'.size)(hr:aL g (cur'.toList.take o'.xs.length) o'.xs)(h1:∀v∈cur'.toList,v.oneCell'=true):aR w0 M0 F (tb.aQ id o') g (w.setRow b cur'):=by
 exact h.Ty e hg hc0 hb rfl rfl rfl (setRow_size _ _ _) (fun k hk=>iU k hk) (setRow_heap w b cur cur' tt fz hb) hs (fun q=>by rw[hs,hel];exact q) hsz hl hr h1
theorem aR.VB(h:aR w0 M0 F tb g w){id b n n' cap el sz:Nat}{cur cur':Array Value}(e:lk id tb.rw=some (el,sz))(hg:g.rv id=some (.slice (some ⟨b,0,none⟩) n cap)){tt:TypeId}{fz:Nat×Nat}(hb:w.heap[b]?=some (.cells cur tt fz))(hs:cur'.size=cur.size)(hsame:∀j,j<n*sz->cur'[j]?=cur[j]?)(hn:n<=n')(hn':n'<=cap)(hlt:n<cap):let N:Mem:=fun b' o=>if b'=b then(cur'.toList.take (n'*sz))[o]? else g.M b' o;aR w0 M0 F ((tb.oq id).bX el sz) ((g.with N).cX tb.nx (.slice (some ⟨b,0,none⟩) n' cap)) (w.setRow b cur')/\g.M.le N/\At N b 0 (cur'.toList.take (n'*sz)):=by
 intro N;obtain⟨v,e1,e2⟩:=h.rows id el sz e;rw[hg]at e1;injection e1 with e1;subst e1;rcases e2 with⟨a,m,e2⟩|⟨b0,n0,apH,amz,e2,e3,⟨tt',fz',e4,efz⟩,e5,e6,e7,e8,e9,e10⟩
 ·injection e2;omega
 injection e2 with e2 Z7 amA;injection e2 with e2;injection e2 with e2;subst e2;subst Z7;subst amA;rw[hb]at e4;injection e4 with e4;injection e4 with e4 e4t yA;subst e4;subst yA;subst e4t;have hle:n*sz<=n'*sz:=Nat.mul_le_mul_right _ hn;have hbw:(w.setRow b cur').heap[b]?=some (.cells cur' tt fz):=setRow_heap w b cur cur' tt fz hb;have hM:g.M.le N:=fun b' o v em=>by
  show(if b'=b then _ else _)=_;split
  ·rename_i Od;subst Od;have ho:=e10 o v em;have hc:=h.holds b' o v em;unfold World.cell? at hc;rw[hb]at hc;simp only[Option.isSome_none,Bool.false_eq_true,if_false]at hc;rw[List.getElem?_take,if_pos (by omega)];rw[<-hsame o ho]at hc;simpa using hc
  ·exact em
 have dS:At N b 0 (cur'.toList.take (n'*sz)):=fun j v ej=>by show(if b=b then _ else _)=_;rw[if_pos rfl,Nat.zero_add];exact ej
 have Fu:∀b',b'≠b->N b'=g.M b':=fun b' hb'=>by funext o;show(if b'=b then _ else _)=_;rw[if_neg hb']
 have J6:(g.with N).le ((g.with N).cX tb.nx (.slice (some ⟨b,0,none⟩) n' cap)):=⟨Mem.le_refl _,fun _ _ e=>e,fun i p e=>by have:=h.mh e;simp only[G.cX];rw[if_neg (by omega)];exact e⟩;refine⟨⟨⟨fun b' o v em=>?_,h.holds.g.mono hM⟩,⟨h.keep.os,h.keep.tape,h.keep.output,by rw[setRow_size];exact h.keep.size,fun k hk hf=>?_⟩,fun k hk hf=>?_,h.BD.trans hM,fun i p ei=>?_,fun i Tx sz' ei=>?_,h.fG,?_,?_,?_⟩,hM,dS⟩
 ·by_cases Od:b'=b
  ·subst Od;have Z8:(cur'.toList.take (n'*sz))[o]?=some v:=by
    have e2:(if b'=b' then(cur'.toList.take (n'*sz))[o]? else g.M b' o)=some v:=em;rwa[if_pos rfl]at e2
   rw[List.getElem?_take]at Z8;split at Z8
   ·unfold World.cell?;rw[hbw];simpa using Z8
   ·cases Z8
  ·have Z8:g.M b' o=some v:=by rw[<-Fu b' Od];exact em
   have:=World.cell?_of_block (w:=w) (w':=w.setRow b cur') (a:=⟨b',o,none⟩) (iU b' Od);rw[this];exact h.holds b' o v Z8
 ·have hkb:k≠b:=fun hh=>by
   subst hh;rcases e3 with e3|e3
   ·omega
   ·exact hf e3
  rw[iU k hkb];exact h.keep.block k hk hf
 ·have hkb:k≠b:=fun hh=>by
   subst hh;rcases e3 with e3|e3
   ·omega
   ·exact hf e3
  show N k=M0 k;rw[Fu k hkb];exact h.old k hk hf
 ·obtain⟨b1,c1,f1,fr,f0⟩:=h.boxes i p ei;refine⟨b1,c1,f1,fun hp=>?_,f0⟩;obtain⟨ou,f2,f3,f4,f5,f6,f7,f8,f9⟩:=fr hp;have:b1≠b:=fun hh=>h.eX i id p _ b1 c1 _ ei e f1 hg hp (by subst hh;exact cZ hlt);exact⟨ou,f2,fun off=>by show N b1 off=none;rw[Fu b1 this];exact f3 off,by rw[iU b1 this];exact f4,f5,f6,f7,(f8.mono (G.mQ hM)).mono J6,f9⟩
 ·simp only[Tb.bX,Tb.oq,bg]at ei;split at ei
  ·rename_i hi;subst hi;injection ei with ei;injection ei with ei1 ei2;subst ei1;subst ei2;refine⟨.slice (some ⟨b,0,none⟩) n' cap,by simp[G.cX],?_⟩;rcases Nat.lt_or_ge n' cap with hlt'|hge
   case inr=>
    obtain rfl:n'=cap:=by omega
    exact .inl ⟨_,_,rfl⟩
   refine .inr ⟨b,n',cap,cur',rfl,?_,⟨tt,fz,hbw,by rw[hs];exact efz⟩,by rw[hs];exact e5,hlt',e7,e8,dS,?_⟩
   ·exact e3
   ·intro o v em;have e2:(if b=b then(cur'.toList.take (n'*sz))[o]? else g.M b o)=some v:=em;rw[if_pos rfl]at e2;have:=(List.getElem?_eq_some_iff.1 e2).1;simp at this;omega
  ·rename_i hi;rw[cD]at ei;split at ei
   ·cases ei
   ·rename_i hid;obtain⟨v,f1,f2⟩:=h.rows i Tx sz' ei;refine⟨v,by simp only[G.cX];rw[if_neg hi];exact f1,f2.imp (fun h=>h) ?_⟩;rintro⟨b1,n1,DL,ou,f3,f4,f5,f6,f7,f8,f9,f10,f11⟩;have:b1≠b:=fun hh=>h.gJ id i _ _ _ v b e ei (fun Vo=>hid Vo.symm) hg f1 (cZ hlt) (by subst f3;subst hh;exact cZ f7);exact⟨b1,n1,DL,ou,f3,f4,by rw[iU b1 this];exact f5,f6,f7,f8,f9,f10.mono hM,fun o v em=>f11 o v (by rw[<-Fu b1 this];exact em)⟩
 ·intro i j r s u v b1 ei ej hij J7 yA e5';simp only[Tb.bX,Tb.oq,bg,cD]at ei ej;simp only[G.cX]at J7 yA;split at ei
  ·rename_i hi;rw[if_pos hi]at J7;injection J7 with J7;subst J7;have e5':=eJ e5';subst e5';split at ej
   ·rename_i hj;omega
   ·rename_i hj;rw[if_neg hj]at yA;split at ej
    ·cases ej
    ·rename_i hjd;exact h.gJ id j _ s _ v _ e ej (fun hh=>hjd hh.symm) hg yA (cZ hlt)
  ·rename_i hi;rw[if_neg hi]at J7;split at ei
   ·cases ei
   ·rename_i hid;split at ej
    ·rename_i hj;rw[if_pos hj]at yA;injection yA with yA;subst yA;intro e6';obtain rfl:=eJ e6';exact h.gJ i id r _ u _ _ ei e hid J7 hg e5' (cZ hlt)
    ·rename_i hj;rw[if_neg hj]at yA;split at ej
     ·cases ej
     ·exact h.gJ i j r s u v b1 ei ej hij J7 yA e5'
 ·intro i j p r b1 c1 v ei ej J7 yA p1;simp only[Tb.bX,Tb.oq,bg,cD]at ej;simp only[G.cX]at yA;split at ej
  ·rename_i hj;rw[if_pos hj]at yA;injection yA with yA;subst yA;intro e6';obtain rfl:=eJ e6';exact h.eX i id p _ _ c1 _ ei e J7 hg p1 (cZ hlt)
  ·rename_i hj;rw[if_neg hj]at yA;split at ej
   ·cases ej
   ·exact h.eX i j p r b1 c1 v ei ej J7 yA p1
 ·intro i hi;simp only[Tb.bX,Tb.oq]at hi;have:=h.fresh i (by omega);simp only[G.cX];rw[if_neg (by omega)];exact this
end
section
variable{P:Program}
structure Src(P:Program)(u:TypeId)(size:Nat)(x:Value)(m:Nat)(news:List Value)(w:World):Prop where
 und:(∃e,P.underlying u=some (.slice e))\/P.underlying u=some .string
 len:(Builtin.lenOf x).run P w= .ok m w
 cells:(Builtin.firstCells size m x).run P w= .ok news.toArray w
 amH:(Builtin.firstCells size m x).run P w.drew= .ok news.toArray w.drew
 one:∀v∈news,v.oneCell'=true
 num:news.length=m*size
theorem fO(P:Program)(g o:Nat)(t:TypeId)(fz:Nat×Nat):∀(vs:List Value) (i:Nat) (cur:Array Value) (w:World),w.heap[g]?=some (.cells cur t fz)->(fz=(0,0)\/cur.size<=fz.1)->o+i+vs.length<=cur.size->(∀v∈vs,v.oneCell'=true)->(storeCells ⟨g,o,none⟩ vs i).run P w= .ok () (w.setRow g (cur.toList.take (o+i)++vs++cur.toList.drop (o+i+vs.length)).toArray)
 |[],i,cur,w,hg,_,_,_=>by
  simp only[storeCells,List.append_nil,List.length_nil,Nat.add_zero,List.take_append_drop,Array.toArray_toList];rw[setRow_self w g cur t fz hg];rfl
 |v::rest,i,cur,w,hg,hfz,hl,h1=>by
  have hi:o+i<cur.size:=by simp at hl;omega
  have amI:(⟨g,o,none⟩:Addr).add i=⟨g,o+i,none⟩:=by unfold Addr.add;split<;>simp_all
  have hcell:w.cell? ⟨g,o+i,none⟩=some cur[o+i]:=by simp[World.cell?,hg,hi]
  have amJ:w.frozen? ⟨g,o+i,none⟩=false:=by
   rcases hfz with rfl|hfz
   ·simp[World.frozen?,hg]
   ·obtain⟨lo,hi'⟩:=fz;simp only[World.frozen?,hg,Bool.and_eq_false_iff,decide_eq_false_iff_not];left;simp only at hfz;omega
  have hst:(store ((⟨g,o,none⟩:Addr).add i) v).run P w= .ok () (w.setRow g (cur.setIfInBounds (o+i) v)):=by
   rw[amI,run_store P w _ v _ (h1 v (by simp)),hcell];simp[amJ,setCell_eq_setRow w g (o+i) cur t fz v hg]
  have ih:=fO P g o t fz rest (i+1) (cur.setIfInBounds (o+i) v) (w.setRow g (cur.setIfInBounds (o+i) v)) (setRow_heap w g cur _ t _ hg) (by simpa using hfz) (by simp at hl⊢;omega) (fun x hx=>h1 x (by simp[hx]));simp only[storeCells,Sem.run_bind,hst,Result.andThen_ok,ih,setRow_setRow];congr 3;have e:=list_seg_step cur.toList (o+i) v rest (by simp at hl⊢;omega);simpa[Array.toList_setIfInBounds,Nat.add_assoc]using e
theorem Aj{t u ty e:TypeId}{i:TypeInfo}(ht:P.underlying t=some (.slice e))(hi:P.info? e=some i){b sLen sCap m:Nat}{cur:Array Value}{x:Value}{news:List Value}{w:World}{tt:TypeId}{fz:Nat×Nat}(hg:w.heap[b]?=some (.cells cur tt fz))(hfz:fz=(0,0)\/cur.size<=fz.1)(hsrc:Src P u i.size x m news w)(hroom:sLen+m<=sCap)(hfit:sLen*i.size+news.length<=cur.size):(Builtin.append_ #[t,u] ty #[.slice (some ⟨b,0,none⟩) sLen sCap,x]).run P w= .ok (.slice (some ⟨b,0,none⟩) (sLen+m) sCap) (w.setRow b (cur.toList.take (sLen*i.size)++news++cur.toList.drop (sLen*i.size+news.length)).toArray):=by
 obtain⟨hu,hlen,hcells,_,hone,_⟩:=hsrc;have hst:=fO P b (sLen*i.size) tt fz news 0 cur w hg hfz (by simpa using hfit) hone;simp only[Nat.add_zero]at hst;rcases hu with⟨e',hu⟩|hu<;>simp[Builtin.append_,run_underlying ht,run_underlying hu,sizeOf,typeInfo,hi,hlen,hroom,hcells,Addr.add_lit,hst]
theorem rC{t u ty e:TypeId}{i:TypeInfo}{z:Value}(ht:P.underlying t=some (.slice e))(hi:P.info? e=some i)(hz:i.zero=some z){s:Value}{a:Option Addr}{sLen sCap m:Nat}{olds:List Value}{x:Value}{news:List Value}{w:World}(hs:s= .slice a sLen sCap)(hold:(Builtin.firstCells i.size sLen s).run P w.drew= .ok olds.toArray w.drew)(hsrc:Src P u i.size x m news w)(hroom:sCap<sLen+m)(h63:sLen+m<=9223372036854775807)(hfit:Builtin.nextslicecap (sLen+m) sCap*i.bytes<=281474976710656):(Builtin.append_ #[t,u] ty #[s,x]).run P w= .ok (.slice (some ⟨w.heap.size,0,none⟩) (sLen+m) (grownCap w (sLen+m) sCap e)) (w.drew.alloc (.cells (olds.toArray++news.toArray++Builtin.zeroCells z.cells (grownCap w (sLen+m) sCap e-(sLen+m))) e)):=by
 obtain⟨hu,hlen,hcells,Pp,hone,_⟩:=hsrc;have hn:¬(sLen+m<=sCap):=by omega
 have h63':¬(9223372036854775807<((sLen:Int)+(m:Int))):=by omega
 have V1:¬(281474976710656<Builtin.nextslicecap (sLen+m) sCap*i.bytes):=by omega
 subst hs;rcases hu with⟨e',hu⟩|hu<;>simp[Builtin.append_,run_underlying ht,run_underlying hu,sizeOf,typeInfo,zeroValue,hi,hz,hlen,hn,h63',V1,Question.forced,Pp,hold,newRow,grownCap]
 all_goals (congr 2;apply Array.ext';simp)
end
def dx(P:Program)(st:AS)(o:Oper)(x:AV)(aO:Tb):Prop:=∀(w0:World) (M0:Mem) (F:Nat->Prop) (g:G) (a:Act) (w:World),aR w0 M0 F st.tb g w->(∀t,Operand.tmp t∈o.op.operands->aZ g (a.tmps.getD t undef) (st.sl t))->∀(K:Act->World->Prop) (Q:Exit->Act->World->Prop),(∀v w' g',g.le g'->aR w0 M0 F aO g' w'->aZ g' v x->K (a.put o.dst v) w')->o.wp P a w K Q
section
variable{P:Program}{st:AS}{o:Oper}
theorem dx.W2{x:AV}(h:cO P st.sl o x):dx P st o x st.tb:=fun w0 M0 F g a w hw ho K Q hK=>
 h w0 M0 F st.tb g a w hw ho K Q fun v w' N h1 h2 h3=>hK v w' (g.with N) (G.mQ h1) h2 h3
theorem bQ{x:AV}{aO:Tb}(h:∀(w0:World) (M0:Mem) (F:Nat->Prop) (g:G) (a:Act) (w:World),aR w0 M0 F st.tb g w->(∀y,y∈o.op.operands->aZ g (a.eval y) (bH st.sl y))->∃v w' g',(execOp a.eval o).run P w= .ok (.value v) w'/\g.le g'/\aR w0 M0 F aO g' w'/\aZ g' v x):dx P st o x aO:=by
 intro w0 M0 F g a w hw ho K Q hK;obtain⟨v,w',g',hr,h1,h2,h3⟩:=h w0 M0 F g a w hw (fun y hy=>iq y fun t e=>ho t (e▸hy));unfold Oper.wp;rw[hr];exact hK v w' g' h1 h2 h3
theorem H_{aO:Tb}(h:∀(w0:World) (M0:Mem) (F:Nat->Prop) (g:G) (a:Act) (w:World),aR w0 M0 F st.tb g w->(∀y,y∈o.op.operands->aZ g (a.eval y) (bH st.sl y))->∃w' g',(execOp a.eval o).run P w= .ok .skip w'/\g.le g'/\aR w0 M0 F aO g' w'):dx P st o .any aO:=by
 intro w0 M0 F g a w hw ho K Q hK;obtain⟨w',g',hr,h1,h2⟩:=h w0 M0 F g a w hw (fun y hy=>iq y fun t e=>ho t (e▸hy));unfold Oper.wp;rw[hr];exact hK undef w' g' h1 h2 (.any _)
def AV.cR:AV->Option (List AV)
 | .p (.agg false xs)=>some (xs.map .p)
 | .p (.agg true _)=>none
 | .agg false xs=>some xs
 | .agg true _=>none
 | .any=>none
 |x=>some [x]
theorem ja{g:G}:∀{vs:List Value} {xs:List PC},cP g.M vs xs->aL g vs (xs.map .p)
 |_,_,.nil=> .nil
 |_,_,.cons h hs=> .cons (.p h) (ja hs)
theorem m0{g:G}{v:Value}{x:AV}{zs:List AV}(h:aZ g v x)(e:x.cR=some zs):aL g v.cells.toList zs/\∀u∈v.cells.toList,u.oneCell'=true:=by
 have one:∀u:Value,u.oneCell'=true->u.cells=#[u]:=fun u hu=>by cases u<;>simp_all [Value.cells,Value.oneCell']
 have single:x.cR=some [x]->v.oneCell'=true->aL g v.cells.toList zs/\∀u∈v.cells.toList,u.oneCell'=true:=fun hx h1=>by
  rw[hx]at e;injection e with e;subst e;rw[one v h1];exact⟨.cons h .nil,by simpa using h1⟩
 cases h with
 |p h1=>
  rename_i y;cases y with
  |agg b xs=>
   cases b with
   |true=>simp[AV.cR]at e
   |false=>
    simp only[AV.cR,Option.some.injEq]at e;subst e;cases h1 with
    |agg hs h2=>exact⟨by simpa[Value.cells]using ja hs,by simpa[Value.cells]using h2⟩
  |_=>exact single rfl (gT h1 rfl).2
 |obj _=>exact single rfl rfl
 |own _ hr=>exact single rfl (gT hr rfl).2
 |full hr=>exact single rfl rfl
 |nn _=>exact single rfl rfl
 |view _ _ _ _ _=>exact single rfl rfl
 |agg hs h1=>simp only[AV.cR,Option.some.injEq]at e;subst e;exact⟨by simpa[Value.cells]using hs,by simpa[Value.cells]using h1⟩
 |jZ _=>exact single rfl rfl
 |kG _=>exact single rfl rfl
 |kV _=>exact single rfl rfl
 |o4 _=>simp[AV.cR]at e
 |any _=>simp[AV.cR]at e
theorem aL.take{g:G}:∀{vs:List Value} {xs:List AV} (n:Nat),aL g vs xs->aL g (vs.take n) (xs.take n)
 |_,_,0,_=>by simpa using aL.nil
 |_,_,n+1,.nil=>by simpa using aL.nil
 |_,_,n+1,.cons h1 hs=>by simpa using aL.cons h1 (hs.take n)
theorem aL.drop{g:G}:∀{vs:List Value} {xs:List AV} (n:Nat),aL g vs xs->aL g (vs.drop n) (xs.drop n)
 |_,_,0,h=>by simpa using h
 |_,_,n+1,.nil=>by simpa using aL.nil
 |_,_,n+1,.cons h1 hs=>by simpa using hs.drop n
theorem aL.append{g:G}:∀{vs ws:List Value} {xs ys:List AV},aL g vs xs->aL g ws ys->aL g (vs++ws) (xs++ys)
 |_,_,_,_,.nil,k=>k
 |_,_,_,_,.cons h1 hs,k=> .cons h1 (hs.append k)
def bJ(P:Program)(t:TypeId):Option (List PC):=match(P.info? t).bind (·.zero)with
 |some z=>if z.cells.toList.all (·.oneCell')then some (z.cells.toList.map c1)else none
 |none=>none
theorem Uj{el:TypeId}{cs:Array Value}{zs:List AV}{w0:World}{M0:Mem}{F:Nat->Prop}{g:G}{w:World}(hw:aR w0 M0 F st.tb g w)(hr:aL g cs.toList zs)(h1:∀u∈cs.toList,u.oneCell'=true):aR w0 M0 F (st.tb.aT ⟨el,zs.length,zs⟩) (g.di st.tb.nx w.heap.size 1) (w.alloc (.cells cs el)):=by
 have hl:=hr.length;have hB:Below w.heap.size w (w.alloc (.cells cs el)):=(Below.refl _ _).alloc (Nat.le_refl _) _;have ht:cs.toList.take zs.length=cs.toList:=List.take_of_length_le (by omega);have e1:=hw.yV (o:=⟨el,zs.length,zs⟩) (cur:=cs) (c:=1) hB (heap_alloc_new w _) (by simp at hl;simp[hl]) (by decide) (by simp at hl;simp[hl]) (by rw[ht];exact hr) h1;exact e1
theorem ahb{t:TypeId}{x:Operand}{zs:List AV}(ho:o.op= .box t x)(hx:(bH st.sl x).cR=some zs):dx P st o (.obj st.tb.nx 0) (st.tb.aT ⟨t,zs.length,zs⟩):=bQ fun w0 M0 F g a w hw h=>by
 have h1:=h x (by simp[ho,Op.operands]);obtain⟨hr,hone⟩:=m0 h1 hx;exact⟨.pointer (some ⟨w.heap.size,0,none⟩),w.alloc (.cells (a.eval x).cells t),_,by simp[execOp,ho,Instr.box,newVar,newRow],hw.kF _ _,Uj hw hr hone,.obj (c:=1) (by simp[G.di])⟩
theorem QY{t:TypeId}{zs:List PC}(ho:o.op= .alloc t)(hz:bJ P t=some zs):dx P st o (.obj st.tb.nx 0) (st.tb.aT ⟨t,zs.length,zs.map .p⟩):=bQ fun w0 M0 F g a w hw h=>by
 unfold bJ at hz;split at hz
 ·rename_i z yI;split at hz
  ·rename_i hall;injection hz with hz;subst hz;have Uk:∀v∈z.cells.toList,v.oneCell'=true:=List.all_eq_true.1 hall;have hr:aL g z.cells.toList ((z.cells.toList.map c1).map .p):=ja (rG g.M _ Uk);have hnew:=Uj (el:=t) hw hr Uk;rw[List.length_map]at hnew;refine⟨.pointer (some ⟨w.heap.size,0,none⟩),w.alloc (.cells z.cells t),_,?_,hw.kF _ _,hnew,.obj (c:=1) (by simp[G.di])⟩;cases hi:P.info? t with
   |none=>rw[hi]at yI;cases yI
   |some i=>
    rw[hi]at yI;have mH:i.zero=some z:=by simpa using yI
    simp[execOp,ho,Instr.alloc,zeroValue,typeInfo,hi,mH,newVar,newRow]
  ·cases hz
 ·cases hz
def ji(off size:Nat)(a:Bool)(xs:List AV):Option AV:=if a then(if off+size<=xs.length then some (.agg false ((xs.drop off).take size))else none)else if size=1 then xs[off]? else none
theorem LY{t:TypeId}{x:Operand}{id off s:Nat}{ag:Bool}{ob:Ob}{y:AV}(ho:o.op= .load t x)(hx:bH st.sl x= .obj id off)(hl:lk id st.tb.bx=some ob)(ht:bR P t=some ag)(hs:aP P t=some s)(hp:ji off s ag ob.xs=some y):dx P st o y st.tb:=bQ fun w0 M0 F g a w hw h=>by
 have h1:=h x (by simp[ho,Op.operands]);rw[hx]at h1;generalize hv:a.eval x=v at h1;cases h1 with
 |obj e=>
  rename_i b c;have xx:=hw.boxes id ob hl;by_cases hne:ob.xs=[]
  ·unfold ji at hp;rw[hne]at hp;cases ag with
   |true=>
    simp only[if_true]at hp;split at hp
    ·rename_i hle;injection hp with hp;subst hp;simp only[List.length_nil,Nat.le_zero]at hle;obtain⟨rfl,rfl⟩:off=0/\s=0:=by omega
     exact⟨.agg #[],w,g,by simp[execOp,ho,hv,Instr.loadAt,Instr.sureAddr,loadVar,gb ht,run_sizeOf hs,loadCells,loadCellsFrom],G.le_refl _,hw,by simpa using aZ.agg (g:=g) (vs:=[]) (xs:=[]) .nil (by simp)⟩
    ·cases hp
   |false=>simp at hp
  have gH:=xx.pos e hne;obtain⟨cur,f2,f3,⟨tt,fz,f4,fo⟩,f5,f6,f7,f8,f9⟩:=xx.real e gH;have cell:∀j u,cur[j]?=some u->w.cell? ⟨b,j,none⟩=some u:=fun j u e=>by unfold World.cell?;rw[f4];simpa using e
  have hlen:=f8.length;unfold ji at hp;cases ag with
  |true=>
   simp only[if_true]at hp;split at hp
   ·rename_i hle;injection hp with hp;subst hp;have gR:off+s<=cur.toList.length:=by simp;omega
    have hls:((cur.toList.drop off).take s).length=s:=by rw[List.length_take,List.length_drop];omega
    have hrun:=run_loadCells_list (P:=P) w ⟨b,off,none⟩ ((cur.toList.drop off).take s) (fun j u e=>by
     rw[Addr.add_lit];rw[List.getElem?_take]at e;split at e
     ·rw[List.getElem?_drop]at e;exact cell _ _ (by simpa using e)
     ·cases e)
    rw[hls]at hrun;have Hq:aL g ((cur.toList.drop off).take s) ((ob.xs.drop off).take s):=by
     have:=(f8.drop off).take s;have e3:((cur.toList.take ob.xs.length).drop off).take s=(cur.toList.drop off).take s:=by
      rw[List.drop_take,List.take_take,Nat.min_eq_left (by omega)]
     rw[e3]at this;exact this
    refine⟨.agg ((cur.toList.drop off).take s).toArray,w,g,?_,G.le_refl _,hw,.agg Hq (fun u hu=>f9 u ?_)⟩
    ·simp[execOp,ho,hv,Instr.loadAt,Instr.sureAddr,loadVar,gb ht,run_sizeOf hs,hrun]
    ·have e3:((cur.toList.take ob.xs.length).drop off).take s=(cur.toList.drop off).take s:=by
      rw[List.drop_take,List.take_take,Nat.min_eq_left (by omega)]
     rw[<-e3]at hu;exact List.mem_of_mem_take (List.mem_of_mem_drop (List.mem_of_mem_take hu))
   ·cases hp
  |false=>
   simp only[Bool.false_eq_true,if_false]at hp;split at hp
   ·obtain⟨u,hu,hr⟩:=f8.get hp;have JD:cur[off]?=some u:=by
     rw[List.getElem?_take]at hu;split at hu
     ·simpa using hu
     ·cases hu
    exact⟨u,w,g,by simp[execOp,ho,hv,Instr.loadAt,Instr.sureAddr,loadVar,gb ht,load,Sem.run,cell _ _ JD],G.le_refl _,hw,hr⟩
   ·cases hp
theorem Gf{t:TypeId}{x y:Operand}{id off:Nat}{ob:Ob}{zs:List AV}(ho:o.op= .store t x y)(hx:bH st.sl x= .obj id off)(hl:lk id st.tb.bx=some ob)(hy:(bH st.sl y).cR=some zs)(hs:aP P t=some zs.length)(hle:off+zs.length<=ob.xs.length):dx P st o .any (st.tb.aQ id {ob with xs:=ob.xs.take off++zs++ob.xs.drop (off+zs.length)}):=H_ fun w0 M0 F g a w hw h=>by
 have h1:=h x (by simp[ho,Op.operands]);rw[hx]at h1;obtain⟨hr,hone⟩:=m0 (h y (by simp[ho,Op.operands])) hy;have hlz:=hr.length;generalize hv:a.eval x=v at h1;generalize hvy:a.eval y=vy at*;cases h1 with
 |obj e=>
  rename_i b c;have f1:=e;have xx:=hw.boxes id ob hl;by_cases hne:ob.xs=[]
  ·obtain⟨rfl,hz⟩:off=0/\zs.length=0:=by rw[hne]at hle;simpa using hle
   have hz0:=List.eq_nil_of_length_eq_zero hz;subst hz0;have ahc:vy.cells.toList=[]:=List.eq_nil_of_length_eq_zero (by simpa using hlz);refine⟨w,g,?_,G.le_refl _,hw.sub (fun i p e=>?_) (fun _ _ e=>e) (Nat.le_refl _)⟩
   ·have e4:vy.cells.size=0:=by simpa using congrArg List.length ahc
    simp[execOp,ho,hv,hvy,Instr.storeAt,Instr.sureAddr,storeVar,run_sizeOf hs,e4,ahc,storeCells]
   ·simp only[Tb.aQ,bg]at e;by_cases hi:i=id
    ·rw[if_pos hi]at e;injection e with e;subst e;subst hi;rw[hl];cases ob;simp at hne;subst hne;rfl
    ·rw[if_neg hi,cD,if_neg hi]at e;exact e
  have gH:=xx.pos e hne;obtain⟨cur,f2,f3,⟨tt,fz,f4,fo⟩,f5,f6,f7,f8,f9⟩:=xx.real e gH;have hlen:=f8.length;have hst:=fO P b off tt fz vy.cells.toList 0 cur w f4 fo.fz (by simp at hlz⊢;omega) hone;simp only[Nat.add_zero]at hst;have hxl:(ob.xs.take off++zs++ob.xs.drop (off+zs.length)).length=ob.xs.length:=by simp;omega
  have vO:((cur.toList.take off++vy.cells.toList++cur.toList.drop (off+vy.cells.toList.length)).toArray).toList.take ob.xs.length=(cur.toList.take ob.xs.length).take off++vy.cells.toList++(cur.toList.take ob.xs.length).drop (off+zs.length):=by
   apply List.ext_getElem?;intro j;simp only[List.getElem?_take,List.getElem?_append,List.length_append,List.length_take,List.getElem?_drop,Array.length_toList,hlz];have e4:vy.cells.size=zs.length:=by simpa using hlz
   simp only[e4,Array.length_toList]at*;by_cases h1:j<ob.xs.length
   ·by_cases h2:j<off
    ·have:j<min off cur.size:=by omega
     have h3:j<min off (min ob.xs.length cur.size):=by omega
     simp[h1,h2,this,h3];split<;>split<;>first|rfl|omega|(split<;>first|rfl|omega)
    ·by_cases h3:j<off+zs.length
     ·have e5:min off cur.size=off:=by omega
      have e6:min off (min ob.xs.length cur.size)=off:=by omega
      simp[h1,h2,h3,e5,e6]
     ·have e5:min off cur.size=off:=by omega
      have e6:min off (min ob.xs.length cur.size)=off:=by omega
      simp[h1,h3,e5,e6,show off+zs.length+(j-(off+zs.length))=j by omega]
   ·have e5:min off (min ob.xs.length cur.size)=off:=by omega
    simp[h1,e5,show¬j<off by omega,show¬j<off+zs.length by omega,show¬off+zs.length+(j-(off+zs.length))<ob.xs.length by omega]
  refine⟨w.setRow b (cur.toList.take off++vy.cells.toList++cur.toList.drop (off+vy.cells.toList.length)).toArray,g,?_,G.le_refl _,hw.aQ (c:=c) hl f1 gH f4 ?_ rfl rfl ?_ ?_ ?_⟩
  ·have e4:vy.cells.size=zs.length:=by simpa using hlz
   simp[execOp,ho,hv,hvy,Instr.storeAt,Instr.sureAddr,storeVar,run_sizeOf hs,e4,hst]
  ·simp at hlz⊢;omega
  ·rw[hxl];simp at hlz⊢;omega
  ·rw[hxl,vO];exact((f8.take off).append hr).append (f8.drop (off+zs.length))
  ·intro u hu;simp only[List.mem_append]at hu;rcases hu with(hu|hu)|hu
   ·exact f9 u (List.mem_of_mem_take hu)
   ·exact hone u hu
   ·exact f9 u (List.mem_of_mem_drop hu)
end
end Go.Av
