/- TiersAgain, part 4: an abstract interpreter over any program's form, with its proof of soundness; no condition. -/
import Derived.Test.YtgkdpbambfgahaaGreatDoorWac
set_option linter.all false
set_option maxRecDepth 100000
set_option maxHeartbeats 64000000
namespace Go.Av
open Go.RowKit
def XI(P:Program)(t:TypeId)(k:AV->Prop):AV->AV->Prop
 | .view id f n s m,y=>(match y.nm with
  | .p (.sc (.int _ j))=>0<=j/\j<(n:Int)/\aO P t=some s/\k (.obj id ((f+j.toNat)*s))
  |_=>False)
 | .obj id off,y=>(match y.nm,kZ P t with
  | .p (.sc (.int _ j)),some (m,s,_)=>0<=j/\j<(m:Int)/\k (.obj id (off+j.toNat*s))
  |_,_=>False)
 |x,y=>gQ P t k x.nm y.nm
def glW(P:Program)(t:TypeId)(k:AV->Prop):AV->Prop
 | .p (.sc (.int _ n))=>kZ P t=some (16,1,false)/\0<=n/\n<16/\k (.p (.ref (.sc (.int .u32 ((nK.getD n.toNat 0:Nat):Int)))))
 |_=>False
def zj(n cap:Nat)(lo hi:Option AV)(k:Nat->Nat->Prop):Prop:=match rW 0 lo,rW n hi with
 |some l,some h=>rX lo/\rX hi/\l<=h/\h<=cap/\k l h
 |_,_=>False
def DB(P:Program)(t:TypeId)(lo hi:Option AV)(k:AV->Prop):AV->Prop
 | .view id f n s (some m)=>aO P t=some s/\f<=m/\zj n (m-f) lo hi λl h=>k (.view id (f+l) (h-l) s (some m))
 | .view id f n s none=>aO P t=some s/\zj n n lo hi λl h=>k (.view id (f+l) (h-l) s none)
 | .p .nil=>(aO P t).isSome=true/\zj 0 0 lo hi λ_ _=>k (.p .nil)
 |x=>iI P t lo hi k x.nm
def sl3(P:Program)(t:TypeId)(k:AV->Prop)(lo hi mx:AV):AV->Prop
 | .view _ _ n _ _=>(match lo,hi,mx with
  | .p (.sc (.int _ l)),.p (.sc (.int _ h)),.p (.sc (.int _ m))=>(aO P t).isSome=true/\0<=l/\l<=h/\h<=m/\m<=(n:Int)/\k .any
  |_,_,_=>False)
 |x=>(match x.nm,lo,hi,mx with
  | .p (.sl xs),.p (.sc (.int _ l)),.p (.sc (.int _ h)),.p (.sc (.int _ m))=>(aO P t).isSome=true/\(∀y∈xs,aO P t=some y.width)/\0<=l/\l<=h/\h=m/\m<=(xs.length:Int)/\k (.full ((xs.take h.toNat).drop l.toNat))
  |_,_,_,_=>False)
def DZ(P:Program)(t:TypeId)(k:AV->Prop):AV->Prop
 | .view _ _ n _ _=>(aO P t).isSome=true/\k (.p (.int n))
 |x=>yj P t k x.nm
def GN(P:Program)(t:TypeId)(k:AV->Prop):AV->Prop
 | .view _ f _ _ (some m)=>(aO P t).isSome=true/\k (.p (.int ((m-f:Nat):Int)))
 | .p .nil=>(aO P t).isSome=true/\k (.p (.int 0))
 | .full xs=>(aO P t).isSome=true/\k (.p (.int xs.length))
 |_=>False
def jq(P:Program)(op:Op)(e:Operand->AV)(k:AV->Prop):Prop:=match op with
 | .indexAddr t x i=>(match x with
  | .global 0=>glW P t k (e i).nm
  |x=>XI P t k (e x) (e i))
 | .slice t x lo hi none=>DB P t (lo.map λy=>(e y).nm) (hi.map λy=>(e y).nm) k (e x)
 | .slice t x none (some hi) (some mx)=>sl3 P t k (.p (.int 0)) (e hi).nm (e mx).nm (e x)
 | .slice t x (some lo) (some hi) (some mx)=>sl3 P t k (e lo).nm (e hi).nm (e mx).nm (e x)
 | .call c=>(match c.callee with
  | .builtin .len=>c.args.size=1/\c.argTypes.size=1/\DZ P (c.argTypes.getD 0 0) k (e (c.args.getD 0 (.tmp 0)))
  | .builtin .cap=>c.args.size=1/\c.argTypes.size=1/\GN P (c.argTypes.getD 0 0) k (e (c.args.getD 0 (.tmp 0)))
  |_=>XE P (.call c) e k)
 |op=>XE P op e k
section
variable{P:Program}{sl:Nat->AV}{o:Oper}
theorem afH{c:Call}{x:Operand}{t:TypeId}(ho:o.op= .call c)(hc:c.callee= .builtin .cap)(ha:c.args=#[x])(hts:c.argTypes=#[t])(hx:bT sl x= .p .nil)(ht:(aO P t).isSome=true):dy P sl o (.p (.int 0)):=eU λw0 M0 F tb g a w hw h=>by
 have e1:=h x (by grind [Op.operands,Call.operands]);rw[hx]at e1;obtain⟨el,hU⟩:=LI ht;have e1:=bO e1;generalize hv:a.eval x=v at e1;cases e1;exact⟨.int .i64 0,by simp[execOp,ho,resolve,hc,ha,hts,invoke,builtin,hv,Builtin.cap_,run_underlying hU,goInt],.p (.sc _ rfl)⟩
theorem afI{c:Call}{x:Operand}{t:TypeId}{xs:List PC}(ho:o.op= .call c)(hc:c.callee= .builtin .cap)(ha:c.args=#[x])(hts:c.argTypes=#[t])(hx:bT sl x= .full xs)(ht:(aO P t).isSome=true):dy P sl o (.p (.int xs.length)):=eU λw0 M0 F tb g a w hw h=>by
 have e1:=h x (by grind [Op.operands,Call.operands]);rw[hx]at e1;obtain⟨el,hU⟩:=LI ht;generalize hv:a.eval x=v at e1;cases e1 with
 |full hr=>
  rename_i ad n;have hn:n=xs.length:=by
   cases hr with
   |dX=>rfl
   |ug a=>rfl
   |sl hn _ _ _ _ _ _ hs=>rw[<-hn,hs.length]
  subst hn;exact⟨.int .i64 xs.length,by simp[execOp,ho,resolve,hc,ha,hts,invoke,builtin,hv,Builtin.cap_,run_underlying hU,goInt],.p (.sc _ rfl)⟩
def akR{t:TypeId}{x:Operand}{lo hi:Option Operand}{l h:Nat}(ho:o.op= .slice t x lo hi none)(hx:bT sl x= .p .nil)(hsz:(aO P t).isSome=true)(hlo:match lo.map (λy=>(bT sl y).nm)with|none=>l=0|some (.p (.sc (.int _ i)))=>i=(l:Int)|_=>False)(hhi:match hi.map (λy=>(bT sl y).nm)with|none=>h=0|some (.p (.sc (.int _ i)))=>i=(h:Int)|_=>False)(h1:l<=h)(h2:h<=0):dy P sl o (.p .nil):=eU λw0 M0 F tb g a w hw hr=>by
 have h3:=hr x (by simp[ho,Op.operands]);rw[hx]at h3;have h3:=bO h3;generalize hv:a.eval x=v at h3;have b1:=oS (λy e=>cu (hr y (by grind [Op.operands]))) hlo;have b2:=oS (λy e=>cu (hr y (by grind [Op.operands]))) hhi;obtain⟨s,hs⟩:=qt.1 hsz;obtain⟨el,hU,hs⟩:=jE hs;obtain rfl:h=0:=O;obtain rfl:l=0:=O;cases h3;have hb:=qq (P:=P) (isS:=true) (n:=0) (cap:=0) b1 b2 h1 O w;exact⟨.slice none 0 0,by simp[execOp,ho,hv,Instr.sliceAt,Instr.slice,run_underlying hU,hb,run_sizeOf hs],.p .nil⟩
def sD{n cap l h m:Nat}{lo:Option Value}{k1 k2:IntKind}(hlo:(lo=none/\l=0)\/∃k,lo=some (.int k l))(h1:l<=h)(h2:h<=m)(h3:m<=cap)(w:World):(Instr.sliceBounds true n cap lo (some (.int k1 h)) (some (.int k2 m))).run P w= .ok (l,h,m) w:=by
 unfold Instr.sliceBounds;rcases hlo with⟨rfl,rfl⟩|⟨k,rfl⟩
 .simp[Instr.sliceBound,asIntOf,show m<=cap by omega,show h<=m by omega]
 .simp[Instr.sliceBound,asIntOf,show m<=cap by omega,show h<=m by omega,show l<=h by omega]
def VB{t:TypeId}{x:Operand}{lo:Option Operand}{hi mx:Operand}{id f n s:Nat}{m:Option Nat}{l h c:Nat}{k1 k2:IntKind}(ho:o.op= .slice t x lo (some hi) (some mx))(hx:bT sl x= .view id f n s m)(hsz:(aO P t).isSome=true)(hlo:(lo=none/\l=0)\/∃y k,lo=some y/\(bT sl y).nm= .p (.sc (.int k l)))(hhi:(bT sl hi).nm= .p (.sc (.int k1 h)))(hmx:(bT sl mx).nm= .p (.sc (.int k2 c)))(h1:l<=h)(h2:h<=c)(h3:c<=n):dy P sl o .any:=eU λw0 M0 F tb g a w hw hr=>by
 have e1:=hr x (by simp[ho,Op.operands]);rw[hx]at e1;have e2:=cu (hr hi (by grind [Op.operands]));rw[hhi]at e2;have e3:=cu (hr mx (by grind [Op.operands]));rw[hmx]at e3;have e2:=bU e2;have e3:=bU e3;have e4:(lo.map a.eval=none/\l=0)\/∃k,lo.map a.eval=some (.int k l):=by
  rcases hlo with⟨rfl,rfl⟩|⟨y,k,rfl,hy⟩
  .simp
  .have:=cu (hr y (by simp[ho,Op.operands]));grind [bU]
 obtain⟨s',hs'⟩:=qt.1 hsz;obtain⟨el,hU,hs⟩:=jE hs';generalize hv:a.eval x=v at e1;cases e1 with
 |view e h4 h5 h6 hm=>
  rename_i b cc ad;have hb:=sD (P:=P) (n:=n) (cap:=cc-f) (k1:=k1) (k2:=k2) e4 h1 h2 O w;exact⟨.slice (if c=l then ad else Option.map (λx=>x.add (l*s')) ad) (h-l) (c-l),by simp[execOp,ho,hv,e2,e3,Instr.sliceAt,Instr.slice,run_underlying hU,hb,run_sizeOf hs],.any _⟩
theorem VC{t:TypeId}{x:Operand}{lo:Option Operand}{hi mx:Operand}{xs:List PC}{l h:Nat}{k1 k2:IntKind}(ho:o.op= .slice t x lo (some hi) (some mx))(hx:(bT sl x).nm= .p (.sl xs))(hsz:(aO P t).isSome=true)(RB:∀y∈xs,aO P t=some y.width)(hlo:(lo=none/\l=0)\/∃y k,lo=some y/\(bT sl y).nm= .p (.sc (.int k l)))(hhi:(bT sl hi).nm= .p (.sc (.int k1 h)))(hmx:(bT sl mx).nm= .p (.sc (.int k2 h)))(h1:l<=h)(h3:h<=xs.length):dy P sl o (.full ((xs.take h).drop l)):=eU λw0 M0 F tb g a w hw hr=>by
 have e1:=cu (hr x (by simp[ho,Op.operands]));rw[hx]at e1;have e2:=cu (hr hi (by grind [Op.operands]));rw[hhi]at e2;have e3:=cu (hr mx (by grind [Op.operands]));rw[hmx]at e3;have e2:=bU e2;have e3:=bU e3;have e4:(lo.map a.eval=none/\l=0)\/∃k,lo.map a.eval=some (.int k l):=by
  rcases hlo with⟨rfl,rfl⟩|⟨y,k,rfl,hy⟩
  .simp
  .have:=cu (hr y (by simp[ho,Op.operands]));grind [bU]
 obtain⟨es,OS⟩:=qt.1 hsz;obtain⟨el,hU,hs⟩:=jE OS;have e1:=bO e1;generalize hv:a.eval x=v at e1;cases e1 with
 |dX=>
  simp at h3;obtain rfl:h=0:=O;obtain rfl:l=0:=O;have hb:=sD (P:=P) (n:=0) (cap:=0) (k1:=k1) (k2:=k2) e4 h1 (aX 0) O w;simp only[Int.natCast_zero]at hb e2 e3;exact⟨.slice none 0 0,by simp[execOp,ho,hv,e2,e3,Instr.sliceAt,Instr.slice,run_underlying hU,hb,run_sizeOf hs],by simpa using bJ.full (g:=g) (a:=none) (n:=0) .dX⟩
 |ug ad=>
  simp at h3;obtain rfl:h=0:=O;obtain rfl:l=0:=O;have hb:=sD (P:=P) (n:=0) (cap:=0) (k1:=k1) (k2:=k2) e4 h1 (aX 0) O w;simp only[Int.natCast_zero]at hb e2 e3;exact⟨.slice (some ad) 0 0,by simp[execOp,ho,hv,e2,e3,Instr.sliceAt,Instr.slice,run_underlying hU,hb,run_sizeOf hs],by simpa using bJ.full (g:=g) (a:=some ad) (n:=0) (.ug ad)⟩
 |sl hl hc hm hs0 hu h1c eM qu=>
  rename_i b off n cap sz us;have hlx:=qu.length;have hn:n=xs.length:=O;have hb:=sD (P:=P) (n:=n) (cap:=cap) (k1:=k1) (k2:=k2) e4 h1 (aX h) O w;have ad0:0<xs.length->es=sz:=λhp=>by
   have hy:=RB (xs[0]'hp) (bB hp)
   obtain⟨u,Ba,J7⟩:=qu.get (i:=0) (n_ hp);have:u.cells.size=sz:=hu u (Km Ba)
   grind [tD]
  have hoff:(if h=l then(some (⟨b,off,none⟩:Addr))else some ⟨b,off+l*es,none⟩)=some ⟨b,off+(if h=l then 0 else l*es),none⟩:=by grind
  refine⟨.slice (some ⟨b,off+(if h=l then 0 else l*es),none⟩) (h-l) (h-l),?_,.full ?_⟩
  .rw[<-hoff];simp[execOp,ho,hv,e2,e3,Instr.sliceAt,Instr.slice,run_underlying hU,hb,run_sizeOf hs,Addr.add_lit]
  .have pI:∀u∈(us.take h).drop l,u.cells.size=sz:=λu Hs=>hu u (oa (fq Hs));refine .sl (sz:=sz) (us:=(us.take h).drop l) (by grind) O O hs0 pI (λv hv=>h1c v (by
    obtain⟨u,Ba,J7⟩:=Bb.1 hv;exact Bb.2 ⟨u,oa (fq Ba),J7⟩)) ?_ ((qu.take h).drop l)
   by_cases kW:h=l
   .have:(us.take h).drop l=[]:=by grind
    rw[this];intro j v e;simp[cellsOf]at e
   .rw[ah kW,ad0 O];refine At.sub eM (λj v e=>?_);have aoT:∀u∈us.take h,u.cells.size=sz:=λu Hs=>hu u (oa Hs);exact vP us hu h _ v (vQ (us.take h) aoT l (by grind) j v e)
def VD{j:Nat}(h:j<16):nK[j]?=some (nK.getD j 0):=by
 have:j<nK.length:=h
 grind
theorem aoU{t:TypeId}{i:Operand}{kd:IntKind}{n:Int}(ho:o.op= .indexAddr t (.global 0) i)(hi:(bT sl i).nm= .p (.sc (.int kd n)))(hA:kZ P t=some (16,1,false))(h0:0<=n)(hn:n<16):dy P sl o (.p (.ref (.sc (.int .u32 ((nK.getD n.toNat 0:Nat):Int))))):=bY λw0 M0 F tb g a w hw h=>by
 have e2:=h i (by simp[ho,Op.operands]);rw[hi]at e2;have e2:=bU e2;obtain⟨m,rfl⟩:=Int.eq_ofNat_of_zero_le h0;have hm:m<16:=O;refine⟨.pointer (some ⟨0,m,none⟩),?_,?_⟩
 .unfold kZ at hA;split at hA
  .rename_i m' e hU;split at hA
   .rename_i s' a' hs' KO;injection hA with hA;obtain⟨rfl,rfl,rfl⟩:=U hA;have ev:a.eval (.global 0)= .pointer (some ⟨0,0,none⟩):=rfl;simp[execOp,ho,ev,e2,Instr.indexAt,asIntOf,run_underlying hU,Instr.sureAddr,hm,run_sizeOf hs',Addr.add_lit]
   grind
  grind
 .refine .p (.ref (u:= .int .u32 ((nK.getD m 0:Nat):Int)) (λj v ej=>?_) (.sc _ rfl));simp only[Value.cells]at ej;cases j with
  |succ j=>grind
  |zero=>
   simp at ej;subst ej;exact hw.holds.g m _ (VD hm)
theorem GO{k:AV->Prop}(h:jq P o.op (bT sl) k):∃x,k x/\dy P sl o x:=by
 unfold jq at h;split at h
 .rename_i t x i ho;split at h
  .unfold glW at h
   grind [aoU]
  unfold XI at h;split at h
  .grind [akS]
  .grind [ajW]
  .exact xo (by rw[ho];exact h)
 .rename_i t x lo hi ho;unfold DB at h;split at h
  .rename_i id f n s m hx;obtain⟨h1,hfm,h⟩:=h;unfold zj at h;split at h
   .rename_i l hh e1 e2;obtain⟨c1,c2,h4,h5,h6⟩:=h;exact⟨_,h6,acB ho hx h1 (o9 e1 c1) (o9 e2 c2) h4 (.inr ⟨m,rfl,O⟩)⟩
   grind
  .rename_i id f n s hx;obtain⟨h1,h⟩:=h;unfold zj at h;split at h
   .rename_i l hh e1 e2;obtain⟨c1,c2,h4,h5,h6⟩:=h;exact⟨_,h6,acB ho hx h1 (o9 e1 c1) (o9 e2 c2) h4 (.inl h5)⟩
   grind
  .rename_i hx;obtain⟨h1,h⟩:=h;unfold zj at h;split at h
   .rename_i l hh e1 e2;obtain⟨c1,c2,h4,h5,h6⟩:=h;exact⟨_,h6,akR ho hx h1 (o9 e1 c1) (o9 e2 c2) h4 h5⟩
   grind
  .exact xo (by rw[ho];exact h)
 .rename_i t x hi mx ho;unfold sl3 at h;split at h
  .rename_i id f n s m hx;split at h
   .rename_i kl l kh h' km m' hl hh hm;obtain⟨h1,h2,h3,h4,h5,h⟩:=h;injection hl with hl;injection hl with hl;injection hl with Hl Ft;subst Ft;exact⟨_,h,VB (l:=0) (h:=h'.toNat) (c:=m'.toNat) ho hx h1 (.inl ⟨rfl,rfl⟩) (by rw[hh,sL O]) (by rw[hm,sL O]) O O O⟩
   grind
  grind [VC]
 .rename_i t x lo hi mx ho;unfold sl3 at h;split at h
  .rename_i id f n s m hx;split at h
   .rename_i kl l kh h' km m' hl hh hm;obtain⟨h1,h2,h3,h4,h5,h⟩:=h;exact⟨_,h,VB (l:=l.toNat) (h:=h'.toNat) (c:=m'.toNat) ho hx h1 (.inr ⟨lo,kl,rfl,by grind⟩) (by rw[hh,sL O]) (by rw[hm,sL O]) O O O⟩
   grind
  .split at h
   .rename_i xs kl l kh h' km m' hx hl hh hm;obtain⟨h1,h2,h3,h4,h5,h6,h⟩:=h;subst h5;exact⟨_,h,VC (l:=l.toNat) (h:=h'.toNat) ho hx h1 h2 (.inr ⟨lo,kl,rfl,by grind⟩) (by rw[hh,sL O]) (by rw[hm,sL O]) O O⟩
   grind
 .rename_i c ho;split at h
  .rename_i hc;obtain⟨h1,h2,h⟩:=h;have ea:=oV h1 (.tmp 0);have et:=oV h2 0;unfold DZ at h;split at h
   .grind [afJ]
   .exact xo (by grind [XE,Pa])
  .rename_i hc;obtain⟨h1,h2,h⟩:=h;have ea:=oV h1 (.tmp 0);have et:=oV h2 0;unfold GN at h
   grind [afK,afH,afI]
  grind [xo]
 .exact xo h
end
section
variable{P:Program}{st:AS}{o:Oper}
def QA{c:Call}{x y:Operand}{t u e:TypeId}{id f n s m dQ k:Nat}{ob:Ob}{zs:List AV}(ho:o.op= .call c)(hc:c.callee= .builtin .append)(ha:c.args=#[x,y])(hts:c.argTypes=#[t,u])(hx:bT st.sl x= .view id f n s (some m))(hl:lk id st.tb.bx=some ob)(hsz:ob.sz=s)(hel:dF P t=some (e,s,dQ))(hf:(f+n)*s<=ob.xs.length)(hroom:f+n+k<=m)(hzl:zs.length=k*s)(hsrc:∀(w0:World) (M0:Mem) (F:Nat->Prop) (g:G) (v:Value) (w:World),bf w0 M0 F st.tb g w->bJ g v (bT st.sl y)->∃cs,Src P u s v k cs w/\aV g cs zs):eV P st o (.view id f (n+k) s (some m)) (st.tb.aY id {ob with xs:=ob.xs.take ((f+n)*s)++zs++ob.xs.drop ((f+n)*s+k*s)}):=cg λw0 M0 F g a w hw h=>by
 have h1:=h x (by grind [Op.operands,Call.operands]);rw[hx]at h1;have h2:=h y (by grind [Op.operands,Call.operands]);obtain⟨cs,hsrc,hz⟩:=hsrc w0 M0 F g _ w hw h2;obtain⟨hU,i,z,hi,_,r6,Gt,hzs⟩:=iq hel;generalize hv:a.eval x=v at h1;cases h1 with
 |view e h3 h4 h5 hm=>
  rename_i b cc ad;obtain rfl:=hm _ rfl;have zJ:BJ (ad.map λa=>a.add (n*s)) b cc (f+n) s:=by
   cases h5 with
   |real off iQ had h5=>
    subst had;refine .real (off+n*s) iQ (by simp[Addr.add_lit]) λhh=>?_
    grind
   |void h0 AF=>
    refine .void h0 ?_
    grind
  obtain⟨w',r1,r0,r2⟩:=oF (P:=P) (f:=f+n) (n:=k) (k:=k) hw hl e hsz hroom zJ hz hsrc.one (aX _) hzl hf;rw[hzl]at r2;refine⟨.slice ad (n+k) (cc-f),w',g,?_,G.le_refl g,r2,.view e O h4 h5 hm⟩;rw[dL ho hc ha hts,hv];obtain⟨q1,q2,q3,_,_,_⟩:=hsrc;have hfit:n+k<=cc-f:=O;subst r6;have:(Builtin.append_ #[t,u] o.type #[.slice ad n (cc-f),a.eval y]).run P w= .ok (.slice ad (n+k) (cc-f)) w':=by
   cases ad with
   |none=>
    obtain rfl:=r0 rfl;rcases q1 with⟨e',q1⟩|q1<;>simp[Builtin.append_,run_underlying hU,run_underlying q1,sizeOf,typeInfo,hi,q2,hfit,q3]
   |some ad=>
    have r1:=r1 _ rfl;rcases q1 with⟨e',q1⟩|q1<;>simp[Builtin.append_,run_underlying hU,run_underlying q1,sizeOf,typeInfo,hi,q2,hfit,q3,r1]
  simp_all
def ak3{u:TypeId}{s:Nat}{ys:List PC}(hu:(aO P u).isSome=true)(hw':∀y∈ys,y.width=s)(hn:∀y∈ys,cE y=true){w0:World}{M0:Mem}{F:Nat->Prop}{tb:Tb}{g:G}{v:Value}{w:World}(hw:bf w0 M0 F tb g w)(hv:bJ g v (.p (.sl ys))):∃cs,Src P u s v ys.length cs w/\aV g cs (ys.flatMap bA):=by
 obtain⟨ad,cap,us,oO⟩:=rD (bO hv);exact⟨_,IW (P:=P) hu oO hw' (w:=w) hw.holds,rH oO.pI hn⟩
theorem zk{s:Nat}:∀(l:List PC),(∀y∈l,y.width=s)->(l.flatMap bA).length=l.length*s
 |[],_=>H
 |z::l,h=>by
  have hz:=h z H;have e:(bA z).length=s:=by
   rw[<-hz];cases z with
   |agg b l=>cases b<;>simp[bA,PC.width]
   |_=>rfl
  simp only[cU,mo,cF];rw[zk l λq hq=>h q (by grind),e,Nat.succ_mul];omega
end
section
variable{P:Program}{st:AS}{o:Oper}
theorem Ex{z:Array Value}(h:∀v∈z.toList,v.oneCell'=true){n:Nat}:∀v∈(Builtin.zeroCells z n).toList,v.oneCell'=true:=by
 grind [size_zeroCells,ru,List.mem_flatten]
def y8{t u ty e:TypeId}{s dQ n cap k:Nat}{w0:World}{M0:Mem}{F:Nat->Prop}{tb:Tb}{g:G}{w:World}(hw:bf w0 M0 F tb g w)(hel:dF P t=some (e,s,dQ)){ad:Option Addr}{y:Value}{olds news:List Value}{zo zs:List AV}(hold:(Builtin.firstCells s n (.slice ad n cap)).run P w.drew= .ok olds.toArray w.drew)(ho:aV g olds zo)(ho1:∀v∈olds,v.oneCell'=true)(xS:zo.length=n*s)(hsrc:Src P u s y k news w)(hz:aV g news zs)(hgrow:cap<n+k)(hbound:(n+k)*dQ<=140737488355328)(lC:n+k<=9223372036854775807):∃v' w' g',(Builtin.append_ #[t,u] ty #[.slice ad n cap,y]).run P w= .ok v' w'/\g.le g'/\bf w0 M0 F (tb.bD ⟨e,s,zo++zs⟩) g' w'/\bJ g' v' (.view tb.nx 0 (n+k) s none):=by
 obtain⟨hU,i,z,hi,Kf,r6,Gt,hzs⟩:=iq hel;subst r6;have hfit:Builtin.nextslicecap (n+k) cap*i.bytes<=281474976710656:=growslice_fits hgrow (by grind);have hrun:=wP (P:=P) (ty:=ty) hU hi Kf rfl hold hsrc hgrow lC hfit;have hge:=grownCap_ge w (n+k) cap e;have UL:=grownCap_le_maxLen w (n+k) cap e (by grind [maxLen]);generalize grownCap w (n+k) cap e=C at*;have hlo:=ho.length;have hlz:=hz.length;have aky:=hsrc.num;have Gu:(olds.toArray++news.toArray++Builtin.zeroCells z.cells (C-(n+k))).size=C*i.size:=by
  simp only[Array.size_append,Br,size_zeroCells,hzs,hlo,xS,aky];rw[<-oz,<-oz];grind
 have hB:Below w.drew.heap.size w.drew (w.drew.alloc (.cells (olds.toArray++news.toArray++Builtin.zeroCells z.cells (C-(n+k))) e)):=(Below.refl _ _).alloc (aX _) _;have hlen:(zo++zs).length=(olds++news).length:=by grind
 have zV:(olds.toArray++news.toArray++Builtin.zeroCells z.cells (C-(n+k))).toList.take (zo++zs).length=olds++news:=by
  grind
 have hle:(zo++zs).length<=(olds.toArray++news.toArray++Builtin.zeroCells z.cells (C-(n+k))).size:=by grind
 have key:=hw.drew.Ec (o:=⟨e,i.size,zo++zs⟩) (c:=C) hB (heap_alloc_new w.drew _) Gu UL hle (by rw[zV];exact ho.append hz) (by
  intro v hv;simp only[Array.toList_append,lD]at hv;rcases hv with(hv|hv)|hv
  .grind
  .exact hsrc.one v O
  grind [Ex,UM])
 exact⟨_,_,_,hrun,hw.drew.nP _ _,key,by
  have:=bJ.view (g:=g.eN tb.nx w.drew.heap.size C) (id:=tb.nx) (b:=w.drew.heap.size) (c:=C) (o:=0) (n:=n+k) (s:=i.size) (a:=some ⟨w.drew.heap.size,0,none⟩) (m:=none) (by simp[G.eN]) O UL (.real 0 O rfl (λ_=>H)) H;simp_all⟩
end
section
variable{P:Program}{st:AS}{o:Oper}{w0:World}{M0:Mem}{F:Nat->Prop}{tb:Tb}{g:G}{w w':World}
def bf.Vj(h:bf w0 M0 F tb g w){id b c:Nat}{ob lG:Ob}(hl:lk id tb.bx=some ob)(he:g.ob id=some (b,c))(hel:lG.el=ob.el)(hsz:lG.sz=ob.sz){n:Nat}(hx:lG.xs=ob.xs.take n):bf w0 M0 F ((tb.cV id).bD lG) (g.eN tb.nx b c) w:=by
 have hle:=h.nP b c;have hid:id<tb.nx:=h.Eb he;refine⟨h.holds,h.keep,h.old,h.HC,λi p e=>?_,λi el sz e=>?_,λi j p q b1 c1 b2 c2 ei ej hij e1 e2 p1 p2=>?_,h.jA,λi j p r b1 c1 v ei ej e1 e2 p1=>?_,λi hi=>?_⟩
 .simp only[Tb.bD,Tb.cV,bP]at e;split at e
  .rename_i hi;subst hi;injection e with e;subst e;refine⟨b,c,by simp[G.eN],λhc=>?_,λhc=>?_⟩
   .obtain⟨cur,f2,f3,f4,f5,f6,f7,f8,f9⟩:=(h.boxes id ob hl).real he hc;have hlen:lG.xs.length<=ob.xs.length:=by grind
    have hsub:cur.toList.take lG.xs.length=(cur.toList.take ob.xs.length).take lG.xs.length:=by grind
    have hxs:lG.xs=ob.xs.take lG.xs.length:=by grind
    refine⟨cur,f2,f3,by grind,by grind,f6,O,?_,f9⟩
    .rw[hsub];have:=(f8.mono hle).take lG.xs.length
     grind
   .obtain⟨b',c',h1,_,h2⟩:=h.boxes id ob hl
    grind
  .rename_i hi;rw[cQ]at e;split at e
   .grind
   .obtain⟨b1,c1,f1,fr,f0⟩:=h.boxes i p e;refine⟨b1,c1,hle.ob _ _ f1,λhp=>?_,f0⟩;obtain⟨uU,f2,f3,f4,f5,f6,f7,f8,f9⟩:=fr hp;exact⟨uU,f2,f3,f4,f5,f6,f7,f8.mono hle,f9⟩
 .obtain⟨v,f1,f2⟩:=h.rows i el sz e;exact⟨v,f1,f2⟩
 .simp only[Tb.bD,Tb.cV,bP,cQ]at ei ej;simp only[G.eN]at e1 e2;split at ei
  .rename_i hi;rw[ai hi]at e1;injection e1 with e1;injection e1 with e1 e1';subst e1;subst e1';split at ej
   .omega
   .rename_i hj;rw[ah hj]at e2;split at ej
    .grind
    .rename_i hjd;exact h.iC id j ob q b c b2 c2 hl ej (λhh=>hjd hh.symm) he e2 p1 p2
  .rename_i hi;rw[ah hi]at e1;split at ei
   .grind
   .rename_i aeo;split at ej
    .rename_i hj;rw[ai hj]at e2;injection e2 with e2;injection e2 with e2 e2';subst e2;subst e2';exact h.iC i id p ob b1 c1 b c ei hl aeo e1 he p1 p2
    .rename_i hj;rw[ah hj]at e2;split at ej
     .grind
     .exact h.iC i j p q b1 c1 b2 c2 ei ej hij e1 e2 p1 p2
 .simp only[Tb.bD,Tb.cV,bP,cQ]at ei;simp only[G.eN]at e1;split at ei
  .rename_i hi;rw[ai hi]at e1;injection e1 with e1;injection e1 with e1 e1';subst e1;subst e1';exact h.gS id j ob r b c v hl ej he e2 p1
  .rename_i hi;rw[ah hi]at e1;split at ei
   .grind
   .exact h.gS i j p r b1 c1 v ei ej e1 e2 p1
 .simp only[Tb.bD,Tb.cV]at hi;have:=h.fresh i O
  grind [G.eN]
def bf.GD(h:bf w0 M0 F tb g w)(el:TypeId)(sz:Nat):bf w0 M0 F (tb.bD ⟨el,sz,[]⟩) (g.eN tb.nx 0 0) w:=by
 have hle:=h.nP 0 0;refine⟨h.holds,h.keep,h.old,h.HC,λi p e=>?_,λi el sz e=>?_,λi j p q b1 c1 b2 c2 ei ej hij e1 e2 p1 p2=>?_,h.jA,λi j p r b1 c1 v ei ej e1 e2 p1=>?_,λi hi=>?_⟩
 .simp only[Tb.bD,bP]at e;split at e
  .rename_i hi;subst hi;injection e with e;subst e;exact⟨0,0,by simp[G.eN],λhc=>absurd hc O,λ_=>rfl⟩
  .obtain⟨b1,c1,f1,fr,f0⟩:=h.boxes i p e;refine⟨b1,c1,hle.ob _ _ f1,λhp=>?_,f0⟩;obtain⟨uU,f2,f3,f4,f5,f6,f7,f8,f9⟩:=fr hp;exact⟨uU,f2,f3,f4,f5,f6,f7,f8.mono hle,f9⟩
 .obtain⟨v,f1,f2⟩:=h.rows i el sz e;exact⟨v,f1,f2⟩
 .simp only[Tb.bD,bP]at ei ej;simp only[G.eN]at e1 e2;split at ei
  .grind
  .rename_i hi;rw[ah hi]at e1;split at ej
   .grind
   .rename_i hj;rw[ah hj]at e2;exact h.iC i j p q b1 c1 b2 c2 ei ej hij e1 e2 p1 p2
 .simp only[Tb.bD,bP]at ei;simp only[G.eN]at e1;split at ei
  .grind
  .rename_i hi;rw[ah hi]at e1;exact h.gS i j p r b1 c1 v ei ej e1 e2 p1
 .simp only[Tb.bD]at hi;have:=h.fresh i O
  grind [G.eN]
def xD(P:Program)(tb:Tb)(u:TypeId)(s:Nat)(y:AV)(k:Nat)(zs:List AV):Prop:=zs.length=k*s/\∀(w0:World) (M0:Mem) (F:Nat->Prop) (g:G) (v:Value) (w:World),bf w0 M0 F tb g w->bJ g v y->∃cs,Src P u s v k cs w/\aV g cs zs
theorem aau{u:TypeId}{s id' f' n':Nat}{m':Option Nat}{lG:Ob}(hu:(aO P u).isSome=true)(hl':lk id' tb.bx=some lG)(hf':(f'+n')*s<=lG.xs.length):xD P tb u s (.view id' f' n' s m') n' ((lG.xs.drop (f'*s)).take (n'*s)):=by
 have hzl:((lG.xs.drop (f'*s)).take (n'*s)).length=n'*s:=by
  grind
 refine⟨hzl,λw0 M0 F g v w hw hv=>?_⟩;obtain⟨el,hU⟩:=LI hu;cases hv with
 |view e h3 h4 h5 hm=>
  rename_i b cc ad;by_cases Qa:n'*s=0
  .refine⟨[],⟨.inl ⟨el,hU⟩,by simp[Builtin.lenOf],?_,?_,H,by grind⟩,?_⟩
   .cases ad<;>simp only[Builtin.firstCells,Qa]<;>rfl
   .cases ad<;>simp only[Builtin.firstCells,Qa]<;>rfl
   .rw[o5 (l:=(lG.xs.drop (f'*s)).take (n'*s)) O];exact .nil
  .have hkp:0<n':=qZ λh=>Qa (by grind);cases h5 with
   |void h0 _=>omega
   |real off iQ had h5=>
   subst had;obtain rfl:=h5 (.inl O);obtain⟨cs,r1,r2,r3,r4,r5⟩:=zm (P:=P) hw hl' e (f'*s) (n'*s) (by grind);exact⟨cs,⟨.inl ⟨el,hU⟩,by simp[Builtin.lenOf],by grind [Builtin.firstCells],by grind [Builtin.firstCells],r4,r1⟩,r3⟩
theorem aav{u:TypeId}{s:Nat}{y:AV}{ys:List PC}(hu:(aO P u).isSome=true)(hy:y.nm= .p (.sl ys))(hw':∀y∈ys,y.width=s)(hn:∀y∈ys,cE y=true):xD P tb u s y ys.length (ys.flatMap bA):=⟨zk ys hw',λw0 M0 F g v w hw hv=>ak3 hu hw' hn hw (by grind [cu])⟩
theorem aaw{u:TypeId}{s:Nat}{y:AV}(hu:(aO P u).isSome=true)(hy:y.nm= .p .nil):xD P tb u s y 0 []:=by
 refine⟨H,λw0 M0 F g v w hw hv=>?_⟩;obtain⟨el,hU⟩:=LI hu;have hv:=cu hv;rw[hy]at hv;have:=bO hv;cases this;exact⟨[],⟨.inl ⟨el,hU⟩,by simp[Builtin.lenOf],by simp[Builtin.firstCells],by simp[Builtin.firstCells],H,H⟩,.nil⟩
theorem aax{u:TypeId}{y:AV}{b:ByteArray}(hu:isStr P u=true)(hy:y.nm= .p (.sc (.string b))):xD P tb u 1 y (bs b).length ((af (bs b)).map .p):=by
 refine⟨by simp[af],λw0 M0 F g v w hw hv=>?_⟩;have hv:=cu hv;rw[hy]at hv;have:=bU hv;subst this;refine⟨_,NU (P:=P) hu,?_⟩;have:∀l:aF,aV g (l.map λb=>Value.int .u8 b.toNat) ((af l).map .p):=λl=>by
  induction l with
  |nil=>exact .nil
  |cons x l ih=>exact .cons (.p (.sc _ rfl)) ih
 grind
def vE(P:Program)(tb:Tb)(u:TypeId)(s:Nat)(k:Nat->List AV->Prop):AV->Prop
 | .view id f n s' _=>s'=s/\(aO P u).isSome=true/\(match lk id tb.bx with
  |some ob=>(f+n)*s<=ob.xs.length/\k n ((ob.xs.drop (f*s)).take (n*s))
  |none=>False)
 |y=>match y.nm with
  | .p (.sl ys)=>(aO P u).isSome=true/\(∀y∈ys,y.width=s)/\(∀y∈ys,cE y=true)/\k ys.length (ys.flatMap bA)
  | .p .nil=>(aO P u).isSome=true/\k 0 []
  | .p (.sc (.string b))=>s=1/\isStr P u=true/\k (bs b).length ((af (bs b)).map .p)
  |_=>False
def GY{u:TypeId}{s:Nat}{k:Nat->List AV->Prop}{y:AV}(h:vE P tb u s k y):∃n zs,k n zs/\xD P tb u s y n zs:=by
 unfold vE at h
 grind [aau,aav,aaw,aax]
def t_{id f n s:Nat}{cc b:Nat}{ad:Option Addr}{ob:Ob}(hw:bf w0 M0 F tb g w)(hl:lk id tb.bx=some ob)(ee:g.ob id=some (b,cc))(h3:f+n<=cc)(h5:BJ ad b cc f s)(hf:(f+n)*s<=ob.xs.length):∃os:List Value,(Builtin.firstCells s n (.slice ad n (cc-f))).run P w.drew= .ok os.toArray w.drew/\os.length=n*s/\aV g os ((ob.xs.drop (f*s)).take (n*s))/\∀v∈os,v.oneCell'=true:=by
 rcases oq n with h0|h0
 .subst h0;refine⟨[],?_,H,U aV.nil,H⟩;cases ad<;>simp[Builtin.firstCells,loadCells,loadCellsFrom]
 .cases h5 with
  |void h0 _=>omega
  |real off iQ had h5=>
  subst had;obtain rfl:=h5 (.inl O);obtain⟨os,r1,r2,r3,r4,r5⟩:=zm (P:=P) hw hl ee (f*s) (n*s) (by grind)
  grind [Builtin.firstCells]
section
variable{c:Call}{x y:Operand}{t u e:TypeId}{id f n s m dQ k:Nat}{ob:Ob}{zs:List AV}
theorem af0(ho:o.op= .call c)(hc:c.callee= .builtin .append)(ha:c.args=#[x,y])(hts:c.argTypes=#[t,u])(hx:bT st.sl x= .view id f n s (some m))(hl:lk id st.tb.bx=some ob)(hsz:ob.sz=s)(hel:dF P t=some (e,s,dQ))(hf:(f+n)*s<=ob.xs.length)(hroom:f+n+k<=m)(hy:xD P st.tb u s (bT st.sl y) k zs):eV P st o (.view id f (n+k) s (some m)) (st.tb.aY id {ob with xs:=ob.xs.take ((f+n)*s)++zs++ob.xs.drop ((f+n)*s+k*s)}):=QA ho hc ha hts hx hl hsz hel hf hroom hy.1 hy.2
theorem aay(ho:o.op= .call c)(hc:c.callee= .builtin .append)(ha:c.args=#[x,y])(hts:c.argTypes=#[t,u])(hx:bT st.sl x= .view id f n s (some m))(hl:lk id st.tb.bx=some ob)(hel:dF P t=some (e,s,dQ))(hf:(f+n)*s<=ob.xs.length)(hy:xD P st.tb u s (bT st.sl y) k zs)(hroom:m-f<n+k)(hbound:(n+k)*dQ<=140737488355328)(lC:n+k<=9223372036854775807):eV P st o (.view st.tb.nx 0 (n+k) s none) (st.tb.bD ⟨e,s,(ob.xs.drop (f*s)).take (n*s)++zs⟩):=cg λw0 M0 F g a w hw h=>by
 have h1:=h x (by grind [Op.operands,Call.operands]);rw[hx]at h1;have h2:=h y (by grind [Op.operands,Call.operands]);obtain⟨cs,hsrc,hz⟩:=hy.2 w0 M0 F g _ w hw h2;generalize hv:a.eval x=v at h1;cases h1 with
 |view ee h3 h4 h5 hm=>
  rename_i b cc ad;obtain rfl:=hm _ rfl;obtain⟨os,q0,r1,r3,r4⟩:=t_ (P:=P) hw hl ee h3 h5 hf;obtain⟨v',w',g',k1,k2,k3,k4⟩:=y8 (P:=P) (ty:=o.type) (n:=n) (cap:=cc-f) (ad:=ad) hw hel q0 r3 r4 (by grind) hsrc hz hroom hbound lC;exact⟨v',w',g',by rw[dL ho hc ha hts,hv,k1];rfl,k2,k3,k4⟩
theorem af1(ho:o.op= .call c)(hc:c.callee= .builtin .append)(ha:c.args=#[x,y])(hts:c.argTypes=#[t,u])(hx:bT st.sl x= .view id 0 n s none)(hl:lk id st.tb.bx=some ob)(hsz:ob.sz=s)(afn:ob.el=e)(hel:dF P t=some (e,s,dQ))(hf:n*s<=ob.xs.length)(hy:xD P st.tb u s (bT st.sl y) k zs)(hbound:(n+k)*dQ<=140737488355328)(lC:n+k<=9223372036854775807):eV P st o (.view st.tb.nx 0 (n+k) s none) ((st.tb.cV id).bD ⟨e,s,ob.xs.take (n*s)++zs⟩):=cg λw0 M0 F g a w hw h=>by
 have h1:=h x (by grind [Op.operands,Call.operands]);rw[hx]at h1;have h2:=h y (by grind [Op.operands,Call.operands]);obtain⟨cs,hsrc,hz⟩:=hy.2 w0 M0 F g _ w hw h2;obtain⟨hU,i,z,hi,_,r6,Gt,hzs⟩:=iq hel;generalize hv:a.eval x=v at h1;cases h1 with
 |view ee h3 h4 h5 hm=>
  rename_i b cc ad;by_cases hroom:n+k<=cc
  .have zJ:BJ (ad.map λa=>a.add (n*s)) b cc (0+n) s:=by
    cases h5 with
    |real off iQ had h5=>
     subst had;refine .real (off+n*s) iQ (by simp[Addr.add_lit]) λhh=>?_
     grind
    |void h0 AF=>
     refine .void h0 ?_
     grind
   obtain⟨w',r1,r0,r2⟩:=oF (P:=P) (f:=0+n) (n:=k) (k:=k) hw hl ee hsz O zJ hz hsrc.one (aX _) hy.1 (by grind);have hzl:=hy.1;have r3:=r2.Vj (id:=id) (ob:={ob with xs:=ob.xs.take ((0+n)*s)++zs++ob.xs.drop ((0+n)*s+zs.length)}) (lG:=⟨e,s,ob.xs.take (n*s)++zs⟩) (n:=n*s+k*s) (by simp[Tb.aY,bP]) ee afn.symm hsz.symm (by
    grind)
   refine⟨.slice ad (n+k) cc,w',g.eN st.tb.nx b cc,?_,hw.nP _ _,r3.sub (λi o e=>?_) (λ_ _ e=>e) (aX _),?_⟩
   .rw[dL ho hc ha hts,hv];obtain⟨q1,q2,q3,_,_,_⟩:=hsrc;have hfit:n+k<=cc:=O;subst r6;have:(Builtin.append_ #[t,u] o.type #[.slice ad n (cc-0),a.eval y]).run P w= .ok (.slice ad (n+k) cc) w':=by
     cases ad with
     |none=>
      obtain rfl:=r0 rfl;rcases q1 with⟨e',q1⟩|q1<;>simp[Builtin.append_,run_underlying hU,run_underlying q1,sizeOf,typeInfo,hi,q2,hfit,q3]
     |some ad=>
      have r1:=r1 _ rfl;rcases q1 with⟨e',q1⟩|q1<;>simp[Builtin.append_,run_underlying hU,run_underlying q1,sizeOf,typeInfo,hi,q2,hfit,q3,r1]
    simp_all
   .grind [Tb.bD,Tb.cV,Tb.aY,bP,cQ]
   .have:=bJ.view (g:=g.eN st.tb.nx b cc) (id:=st.tb.nx) (b:=b) (c:=cc) (o:=0) (n:=n+k) (s:=s) (a:=ad) (m:=none) (by simp[G.eN]) O h4 h5 H;omega
  .obtain⟨os,q0,r1,r3,r4⟩:=t_ (P:=P) hw hl ee h3 h5 (by grind);obtain⟨v',w',g',k1,k2,k3,k4⟩:=y8 (P:=P) (ty:=o.type) (n:=n) (cap:=cc-0) (ad:=ad) hw hel q0 r3 r4 (by grind) hsrc hz O hbound lC;simp only[sQ,jx]at k3;refine⟨v',w',g',by rw[dL ho hc ha hts,hv,k1];rfl,k2,k3.sub (λi o e=>?_) (λ_ _ e=>e) (aX _),k4⟩
   grind [Tb.bD,Tb.cV,bP,cQ]
theorem af2(ho:o.op= .call c)(hc:c.callee= .builtin .append)(ha:c.args=#[x,y])(hts:c.argTypes=#[t,u])(hx:bT st.sl x= .full []\/bT st.sl x= .p .nil)(hel:dF P t=some (e,s,dQ))(hy:xD P st.tb u s (bT st.sl y) k zs)(hbound:k*dQ<=140737488355328)(lC:k<=9223372036854775807):eV P st o (.view st.tb.nx 0 k s none) (st.tb.bD ⟨e,s,zs⟩):=cg λw0 M0 F g a w hw h=>by
 have h1:=h x (by grind [Op.operands,Call.operands]);have h2:=h y (by grind [Op.operands,Call.operands]);obtain⟨cs,hsrc,hz⟩:=hy.2 w0 M0 F g _ w hw h2;obtain⟨hU,i,z,hi,_,r6,Gt,hzs⟩:=iq hel;obtain⟨ad,hv,AF⟩:∃ad,a.eval x= .slice ad 0 0/\(ad=none\/∃a',ad=some a'):=by
  rcases hx with hx|hx
  .rw[hx]at h1;generalize a.eval x=v at h1;cases h1 with
   |full hr=>cases hr with
    |dX=>simp
    |ug a=>simp
    |sl hn _ _ _ _ _ _ hs=>have:=hs.length;grind
  .rw[hx]at h1;have:=bO h1;generalize a.eval x=v at this;cases this;simp
 rcases oq k with hk|hk
 .subst hk;have hz0:zs=[]:=o5 (by rw[hy.1];simp);subst hz0;have hcs:cs=[]:=by cases hz;rfl
  subst hcs;subst r6;refine⟨.slice ad 0 0,w,g.eN st.tb.nx 0 0,?_,hw.nP _ _,hw.GD e i.size,?_⟩
  .rw[dL ho hc ha hts,hv,rE hU hi hsrc (aX _)];rfl
  .have:=bJ.view (g:=g.eN st.tb.nx 0 0) (id:=st.tb.nx) (b:=0) (c:=0) (o:=0) (n:=0) (s:=i.size) (a:=ad) (m:=none) (by simp[G.eN]) O O (.void rfl AF) H;omega
 .obtain⟨v',w',g',k1,k2,k3,k4⟩:=y8 (P:=P) (ty:=o.type) (n:=0) (cap:=0) (ad:=ad) (olds:=[]) (zo:=[]) hw hel (by cases ad<;>simp[Builtin.firstCells,loadCells,loadCellsFrom]) .nil H H hsrc hz O (by grind) O;simp only[pq,o3]at k3 k4;exact⟨v',w',g',by rw[dL ho hc ha hts,hv,k1];rfl,k2,k3,k4⟩
end
end
section
variable{P:Program}{st:AS}{o:Oper}{w0:World}{M0:Mem}{F:Nat->Prop}{tb:Tb}{g:G}{w w':World}
def DY{t u ty e:TypeId}{i:TypeInfo}{z:Value}{kd Kh:IntKind}(ht:P.underlying t=some (.slice e))(hu:P.underlying u=some (.int kd))(hi:P.info? e=some i)(hz:i.zero=some z)(hsz:0<i.size){s:Value}{a:Option Addr}{sLen sCap j:Nat}{olds:List Value}{w:World}(hzs:z.cells.size=i.size)(hs:s= .slice a sLen sCap)(hold:(Builtin.firstCells i.size sLen s).run P w.drew= .ok olds.toArray w.drew)(hroom:sCap<sLen+j)(h63:sLen+j<=9223372036854775807)(hfit:Builtin.nextslicecap (sLen+j) sCap*i.bytes<=281474976710656)(hj:j*i.bytes<=281474976710656)(hjp:0<j):(Builtin.append_ #[t,u] ty #[s,.int Kh j]).run P w= .ok (.slice (some ⟨w.heap.size,0,none⟩) (sLen+j) (grownCap w (sLen+j) sCap e)) (w.drew.alloc (.cells (olds.toArray++Builtin.zeroCells z.cells j++Builtin.zeroCells z.cells (grownCap w (sLen+j) sCap e-(sLen+j))) e)):=by
 have hn:¬(sLen+j<=sCap):=O;have h63':¬(9223372036854775807<((sLen:Int)+(j:Int))):=O;have aeE:¬(281474976710656<Builtin.nextslicecap (sLen+j) sCap*i.bytes):=O;have jC:IntKind.i64.wrap (j:Int)=j:=IntWalk.i64_in _ ⟨O,O⟩;have hjb:¬(281474976710656<(j:Int)*(i.bytes:Int)):=by
  omega
 have hneg:¬((j:Int)<0):=O;have h0:¬(j*i.size=0):=λh=>by grind [Nat.mul_eq_zero]
 subst hs;simp[Builtin.append_,run_underlying ht,run_underlying hu,sizeOf,typeInfo,zeroValue,hi,hz,hn,h63',aeE,Question.forced,hold,newRow,grownCap,asInt,asIntOf,jC,hjb,hneg];omega
def vA{t u ty e:TypeId}{s dQ n cap j:Nat}{kd Kh:IntKind}(hw:bf w0 M0 F tb g w)(hel:dF P t=some (e,s,dQ))(hu:P.underlying u=some (.int kd)){z:List PC}(hz:bX P e=some z)(hs:0<s){ad:Option Addr}{olds:List Value}{zo:List AV}(hold:(Builtin.firstCells s n (.slice ad n cap)).run P w.drew= .ok olds.toArray w.drew)(ho:aV g olds zo)(ho1:∀v∈olds,v.oneCell'=true)(xS:zo.length=n*s)(hj:0<j)(hgrow:cap<n+j)(hbound:(n+j)*dQ<=140737488355328)(lC:n+j<=9223372036854775807):∃v' w' g',(Builtin.append_ #[t,u] ty #[.slice ad n cap,.int Kh j]).run P w= .ok v' w'/\g.le g'/\bf w0 M0 F (tb.bD ⟨e,s,zo++(jD j z).map .p⟩) g' w'/\bJ g' v' (.view tb.nx 0 (n+j) s none):=by
 obtain⟨hU,i,zv,hi,Kf,r6,Gt,hzs⟩:=iq hel;obtain⟨zv',r7,rfl,hone⟩:=xu hz hi;rw[Kf]at r7;injection r7 with r7;subst r7;subst r6;have hfit:Builtin.nextslicecap (n+j) cap*i.bytes<=281474976710656:=growslice_fits hgrow (by grind);have hjb:j*i.bytes<=281474976710656:=by
  grind
 have hrun:=DY (P:=P) (ty:=ty) (Kh:=Kh) hU hu hi Kf hs hzs rfl hold hgrow lC hfit hjb hj;have hge:=grownCap_ge w (n+j) cap e;have UL:=grownCap_le_maxLen w (n+j) cap e (by grind [maxLen]);generalize grownCap w (n+j) cap e=C at*;have hlo:=ho.length;have zY:=ru (z:=zv.cells) O j;have hr:=tZ j (Builtin.zeroCells zv.cells j) zY g.M hone;have Gu:(olds.toArray++Builtin.zeroCells zv.cells j++Builtin.zeroCells zv.cells (C-(n+j))).size=C*i.size:=by
  simp only[Array.size_append,Br,size_zeroCells,hzs,hlo,xS];rw[<-oz,<-oz];grind
 have hB:Below w.drew.heap.size w.drew (w.drew.alloc (.cells (olds.toArray++Builtin.zeroCells zv.cells j++Builtin.zeroCells zv.cells (C-(n+j))) e)):=(Below.refl _ _).alloc (aX _) _;have hlen:(zo++(jD j (zv.cells.toList.map c1)).map AV.p).length=(olds++(Builtin.zeroCells zv.cells j).toList).length:=by
  grind [oC,size_zeroCells]
 have zV:(olds.toArray++Builtin.zeroCells zv.cells j++Builtin.zeroCells zv.cells (C-(n+j))).toList.take (zo++(jD j (zv.cells.toList.map c1)).map AV.p).length=olds++(Builtin.zeroCells zv.cells j).toList:=by
  grind
 have hle:(zo++(jD j (zv.cells.toList.map c1)).map AV.p).length<=(olds.toArray++Builtin.zeroCells zv.cells j++Builtin.zeroCells zv.cells (C-(n+j))).size:=by grind
 have key:=hw.drew.Ec (o:=⟨e,i.size,zo++(jD j (zv.cells.toList.map c1)).map AV.p⟩) (c:=C) hB (heap_alloc_new w.drew _) Gu UL hle (by rw[zV];exact ho.append (lY hr.1)) (by
  grind [Ex])
 exact⟨_,_,_,hrun,hw.drew.nP _ _,key,by
  have:=bJ.view (g:=g.eN tb.nx w.drew.heap.size C) (id:=tb.nx) (b:=w.drew.heap.size) (c:=C) (o:=0) (n:=n+j) (s:=i.size) (a:=some ⟨w.drew.heap.size,0,none⟩) (m:=none) (by simp[G.eN]) O UL (.real 0 O rfl (λ_=>H)) H;simp_all⟩
section
variable{c:Call}{x y:Operand}{t u e:TypeId}{id f n s m dQ j:Nat}{ob:Ob}{z:List PC}{kd Kh:IntKind}
def vC{t:TypeId}{k:IntKind}(h:Av.intOf P t=some k):P.underlying t=some (.int k):=by
 grind [Av.intOf]
theorem Z2(ho:o.op= .call c)(hc:c.callee= .builtin .append)(ha:c.args=#[x,y])(hts:c.argTypes=#[t,u])(hx:bT st.sl x= .view id f n s (some m))(hl:lk id st.tb.bx=some ob)(hel:dF P t=some (e,s,dQ))(hs:0<s)(hf:(f+n)*s<=ob.xs.length)(hu:Av.intOf P u=some kd)(hz:bX P e=some z)(hy:(bT st.sl y).nm= .p (.sc (.int Kh j)))(hj:0<j)(hroom:m-f<n+j)(hbound:(n+j)*dQ<=140737488355328)(lC:n+j<=9223372036854775807):eV P st o (.view st.tb.nx 0 (n+j) s none) (st.tb.bD ⟨e,s,(ob.xs.drop (f*s)).take (n*s)++(jD j z).map .p⟩):=cg λw0 M0 F g a w hw h=>by
 have h1:=h x (by grind [Op.operands,Call.operands]);rw[hx]at h1;have h2:=cu (h y (by grind [Op.operands,Call.operands]));rw[hy]at h2;have h2:=bU h2;generalize hv:a.eval x=v at h1;cases h1 with
 |view ee h3 h4 h5 hm=>
  rename_i b cc ad;obtain rfl:=hm _ rfl;obtain⟨os,q0,r1,r3,r4⟩:=t_ (P:=P) hw hl ee h3 h5 hf;obtain⟨v',w',g',k1,k2,k3,k4⟩:=vA (P:=P) (ty:=o.type) (Kh:=Kh) (n:=n) (cap:=cc-f) (ad:=ad) hw hel (vC hu) hz hs q0 r3 r4 (by grind) hj hroom hbound lC;exact⟨v',w',g',by rw[dL ho hc ha hts,hv,h2,k1];rfl,k2,k3,k4⟩
theorem Vi(ho:o.op= .call c)(hc:c.callee= .builtin .append)(ha:c.args=#[x,y])(hts:c.argTypes=#[t,u])(hx:bT st.sl x= .view id 0 n s none)(hl:lk id st.tb.bx=some ob)(hsz:ob.sz=s)(afn:ob.el=e)(hel:dF P t=some (e,s,dQ))(hs:0<s)(hf:n*s<=ob.xs.length)(hu:Av.intOf P u=some kd)(hz:bX P e=some z)(hy:(bT st.sl y).nm= .p (.sc (.int Kh j)))(hj:0<j)(hbound:(n+j)*dQ<=140737488355328)(lC:n+j<=9223372036854775807):eV P st o (.view st.tb.nx 0 (n+j) s none) ((st.tb.cV id).bD ⟨e,s,ob.xs.take (n*s)++(jD j z).map .p⟩):=cg λw0 M0 F g a w hw h=>by
 have h1:=h x (by grind [Op.operands,Call.operands]);rw[hx]at h1;have h2:=cu (h y (by grind [Op.operands,Call.operands]));rw[hy]at h2;have h2:=bU h2;obtain⟨hU,i,zv,hi,Kf,r6,Gt,hzs⟩:=iq hel;obtain⟨zv',r7,ara,hone⟩:=xu hz hi;have hzc:zv'.cells=zv.cells:=by grind
 have hul:=vC hu;generalize hv:a.eval x=v at h1;cases h1 with
 |view ee h3 h4 h5 hm=>
  rename_i b cc ad;by_cases hroom:n+j<=cc
  .have zJ:BJ (ad.map λa=>a.add (n*s)) b cc (0+n) s:=by
    cases h5 with
    |real off iQ had h5=>
     subst had;refine .real (off+n*s) iQ (by simp[Addr.add_lit]) λhh=>?_
     grind
    |void h0 AF=>
     omega
   have zY:=ru (z:=zv'.cells) (by grind) j;have hr:=tZ j (Builtin.zeroCells zv'.cells j) zY g.M hone;have hzl:(jD j z).length=j*s:=by grind [oC]
   obtain⟨w',r1,r0,r2⟩:=oF (P:=P) (f:=0+n) (n:=j) (k:=j) hw hl ee hsz O zJ (cs:=(Builtin.zeroCells zv'.cells j).toList) (zs:=(jD j z).map .p) (by grind [lY]) hr.2 (aX _) (by grind) (by grind);have r3:=r2.Vj (id:=id) (ob:={ob with xs:=ob.xs.take ((0+n)*s)++(jD j z).map .p++ob.xs.drop ((0+n)*s+((jD j z).map AV.p).length)}) (lG:=⟨e,s,ob.xs.take (n*s)++(jD j z).map .p⟩) (n:=n*s+j*s) (by simp[Tb.aY,bP]) ee afn.symm hsz.symm (by
    grind)
   refine⟨.slice ad (n+j) cc,w',g.eN st.tb.nx b cc,?_,hw.nP _ _,r3.sub (λi o e=>?_) (λ_ _ e=>e) (aX _),?_⟩
   .rw[dL ho hc ha hts,hv,h2];have jC:IntKind.i64.wrap (j:Int)=j:=IntWalk.i64_in _ ⟨O,O⟩;have hjn:j*i.bytes<=281474976710656:=by
     grind
    have hjb:¬(281474976710656<(j:Int)*(i.bytes:Int)):=by
     omega
    have hneg:¬((j:Int)<0):=O;have h0:¬(j=0\/i.size=0):=O;have Ho:¬i.size=0:=O;have hj0:¬j=0:=O;subst r6;have akJ:i.zero=some zv':=r7;have:(Builtin.append_ #[t,u] o.type #[.slice ad n (cc-0),.int Kh j]).run P w= .ok (.slice ad (n+j) cc) w':=by
     cases ad with
     |none=>
      obtain rfl:=r0 rfl;simp[Builtin.append_,run_underlying hU,run_underlying hul,sizeOf,typeInfo,zeroValue,hi,akJ,hroom,asInt,asIntOf,jC,hjb,hneg]
     |some ad=>
      have r1:=r1 _ rfl;simp[Builtin.append_,run_underlying hU,run_underlying hul,sizeOf,typeInfo,zeroValue,hi,akJ,hroom,asInt,asIntOf,jC,hjb,hneg,r1]
      grind [Nat.mul_eq_zero]
    simp_all
   .grind [Tb.bD,Tb.cV,Tb.aY,bP,cQ]
   .have:=bJ.view (g:=g.eN st.tb.nx b cc) (id:=st.tb.nx) (b:=b) (c:=cc) (o:=0) (n:=n+j) (s:=s) (a:=ad) (m:=none) (by simp[G.eN]) O h4 h5 H;omega
  .obtain⟨os,q0,r1,r3,r4⟩:=t_ (P:=P) hw hl ee h3 h5 (by grind);obtain⟨v',w',g',k1,k2,k3,k4⟩:=vA (P:=P) (ty:=o.type) (Kh:=Kh) (n:=n) (cap:=cc-0) (ad:=ad) hw hel hul hz hs q0 r3 r4 (by grind) hj O hbound lC;simp only[sQ,jx]at k3;refine⟨v',w',g',by rw[dL ho hc ha hts,hv,h2,k1];rfl,k2,k3.sub (λi o e=>?_) (λ_ _ e=>e) (aX _),k4⟩
   grind [Tb.bD,Tb.cV,bP,cQ]
theorem Vk(ho:o.op= .call c)(hc:c.callee= .builtin .append)(ha:c.args=#[x,y])(hts:c.argTypes=#[t,u])(hx:bT st.sl x= .full []\/bT st.sl x= .p .nil)(hel:dF P t=some (e,s,dQ))(hs:0<s)(hu:Av.intOf P u=some kd)(hz:bX P e=some z)(hy:(bT st.sl y).nm= .p (.sc (.int Kh j)))(hj:0<j)(hbound:j*dQ<=140737488355328)(lC:j<=9223372036854775807):eV P st o (.view st.tb.nx 0 j s none) (st.tb.bD ⟨e,s,(jD j z).map .p⟩):=cg λw0 M0 F g a w hw h=>by
 have h1:=h x (by grind [Op.operands,Call.operands]);have h2:=cu (h y (by grind [Op.operands,Call.operands]));rw[hy]at h2;have h2:=bU h2;obtain⟨ad,hv⟩:∃ad,a.eval x= .slice ad 0 0:=by
  rcases hx with hx|hx
  .rw[hx]at h1;generalize a.eval x=v at h1;cases h1 with
   |full hr=>cases hr with
    |dX=>simp
    |ug a=>simp
    |sl hn _ _ _ _ _ _ hs=>have:=hs.length;simp_all
  .rw[hx]at h1;have:=bO h1;generalize a.eval x=v at this;cases this;simp
 obtain⟨v',w',g',k1,k2,k3,k4⟩:=vA (P:=P) (ty:=o.type) (Kh:=Kh) (n:=0) (cap:=0) (ad:=ad) (olds:=[]) (zo:=[]) hw hel (vC hu) hz hs (by cases ad<;>simp[Builtin.firstCells,loadCells,loadCellsFrom]) .nil H H hj O (by grind) O;simp only[pq,o3]at k3 k4;exact⟨v',w',g',by rw[dL ho hc ha hts,hv,h2,k1];rfl,k2,k3,k4⟩
end
end
section
variable{P:Program}{st:AS}{o:Oper}
theorem akK{t e:TypeId}{sz dQ n:Nat}{ps:Array (Nat×Operand)}{ys:List PC}(ho:o.op= .buildSlice t n ps)(ht:dF P t=some (e,sz,dQ))(hsz:0<sz)(hio:bW 0 ps.toList=true)(hn:ps.size=n)(wY:n*sz<=16777216)(hys:fS (ps.toList.map λp=>(bT st.sl p.2).nm)=some ys)(hw':∀y∈ys,y.width=sz)(hnt:∀y∈ys,cE y=true):eV P st o (.view st.tb.nx 0 n sz (some n)) (st.tb.bD ⟨e,sz,ys.flatMap bA⟩):=cg λw0 M0 F g a w hw h=>by
 have hr:=nT (g:=g) (a:=a) (ps.toList.map (·.2)) ys (λy hy=>cu (h y (by grind [Op.operands]))) (by rw[jF];exact hys);have rG:=ew hr hw';have CL:(((ps.map λ(i,x)=>(i,a.eval x)).toList).map (·.2))=(ps.toList.map (·.2)).map a.eval:=H;have LK:bW 0 ((ps.map λ(i,x)=>(i,a.eval x)).toList)=true:=by
  have key:∀(l:List (Nat×Operand)) (k:Nat),bW k l=true->bW k (l.map λp=>(p.1,a.eval p.2))=true:=by
   intro l
   induction l with
   |nil=>intro k _;rfl
   |cons p l ih=>grind [bW]
  simp_all
 have hrun:=lZ (P:=P) (w:=w) (n:=n) ht LK (by grind) wY hsz (by grind);rw[CL]at hrun;generalize pI:(ps.toList.map (·.2)).map a.eval=us at hr rG hrun;have hlen:us.length=n:=by grind
 have Hq:=rH hr hnt;have kW:(cellsOf us).length=n*sz:=by grind [dx]
 have hlc:(ys.flatMap bA).length=n*sz:=by rw[<-Hq.length,kW]
 have hone:∀v∈cellsOf us,v.oneCell'=true:=by
  have key:∀{us:List Value} {ys:List PC},dh g.M us ys->(∀y∈ys,cE y=true)->∀u∈cellsOf us,u.oneCell'=true:=by
   intro us ys hr
   induction us generalizing ys with
   |nil=>grind [cellsOf]
   |cons v us ih=>
    intro hb u hu;cases hr with
    |cons hv hr=>
     rename_i y ys;simp only[cellsOf,cU,lD]at hu;rcases hu with hu|hu
     .have hby:=hb y H;by_cases hp:y.plain=true
      .grind [jZ]
      .cases y with
       |agg b xs=>
        cases b with
        |true=>cases hby
        |false=>cases hv with
         |agg hs h1=>grind [Value.cells]
       |_=>simp[PC.plain]at hp
     .exact ih hr (λy hy=>hb y (by grind)) u hu
  grind
 have hB:Below w.heap.size w (w.alloc (.cells (cellsOf us).toArray e)):=(Below.refl _ _).alloc (aX _) _;have lC:n<=maxLen:=by
  have:n*1<=n*sz:=F7 _ hsz
  grind [maxLen]
 have key:=hw.Ec (o:=⟨e,sz,ys.flatMap bA⟩) (cur:=(cellsOf us).toArray) (c:=n) hB (heap_alloc_new w _) O lC (by grind) (by grind) O;refine⟨.slice (some ⟨w.heap.size,0,none⟩) n n,_,_,?_,hw.nP _ _,key,?_⟩
 .have afo:ps.map (λ(p:Nat×Operand)=>(p.1,a.eval p.2))=((ps.map λ(i,x)=>(i,a.eval x)).toList).toArray:=by grind
  simp only[execOp,ho,Sem.run_bind];have CM:(Instr.buildSlice t n (ps.map λ(x:Nat×Operand)=>(x.1,a.eval x.2))).run P w= .ok (.slice (some ⟨w.heap.size,0,none⟩) n n) (w.alloc (.cells (cellsOf us).toArray e)):=O;rw[CM];rfl
 .have:=bJ.view (g:=g.eN st.tb.nx w.heap.size n) (id:=st.tb.nx) (b:=w.heap.size) (c:=n) (o:=0) (n:=n) (s:=sz) (a:=some ⟨w.heap.size,0,none⟩) (by simp[G.eN]) O lC (by
   rcases oq n with h0|h0
   .exact .void h0 (.inr ⟨_,rfl⟩)
   .exact .real 0 h0 rfl (λ_=>H)) (m:=some n) (λk hk=>by grind)
  omega
def CN(sz:Nat):Option (List AV)->Option (List AV)->Option (List AV)
 |some zs,some r=>if zs.length=sz then some (zs++r)else none
 |_,_=>none
def rI(sz:Nat):List AV->Option (List AV)
 |[]=>some []
 |x::l=>CN sz x.dW (rI sz l)
theorem CO{g:G}{sz:Nat}:∀{us:List Value} {xs zs:List AV},aV g us xs->rI sz xs=some zs->aV g (cellsOf us) zs/\(∀u∈us,u.cells.size=sz)/\∀v∈cellsOf us,v.oneCell'=true
 |[],[],zs,_,h=>by grind [rI,cellsOf]
 |u::us,x::xs,zs,.cons hx hs,h=>by
  simp only[rI]at h;cases h1:x.dW with
  |none=>grind [CN]
  |some z=>
   cases h2:rI sz xs with
   |none=>grind [CN]
   |some r=>
    rw[h1,h2]at h;simp only[CN]at h;split at h
    .rename_i hl;injection h with h;subst h;obtain⟨a1,a2⟩:=rz hx h1;obtain⟨b1,b2,b3⟩:=CO hs h2;refine⟨by simpa[cellsOf]using a1.append b1,?_,?_⟩
     .intro v hv;rcases fF.1 hv with rfl|hv
      .rw[<-hl,<-a1.length];simp
      grind
     grind [cellsOf]
    grind
theorem afp{t e:TypeId}{sz dQ n:Nat}{ps:Array (Nat×Operand)}{zs:List AV}(ho:o.op= .buildSlice t n ps)(ht:dF P t=some (e,sz,dQ))(hsz:0<sz)(hio:bW 0 ps.toList=true)(hn:ps.size=n)(wY:n*sz<=16777216)(hzs:rI sz (ps.toList.map λp=>bT st.sl p.2)=some zs):eV P st o (.view st.tb.nx 0 n sz (some n)) (st.tb.bD ⟨e,sz,zs⟩):=cg λw0 M0 F g a w hw h=>by
 have hr0:=wR (g:=g) (a:=a) (sl:=st.sl) (ps.toList.map (·.2)) (λy hy=>h y (by grind [Op.operands]));have hm:(ps.toList.map (·.2)).map (bT st.sl)=ps.toList.map λp=>bT st.sl p.2:=H;rw[hm]at hr0;obtain⟨Hq,rG,hone⟩:=CO hr0 hzs;have CL:(((ps.map λ(i,x)=>(i,a.eval x)).toList).map (·.2))=(ps.toList.map (·.2)).map a.eval:=H;have LK:bW 0 ((ps.map λ(i,x)=>(i,a.eval x)).toList)=true:=by
  have key:∀(l:List (Nat×Operand)) (k:Nat),bW k l=true->bW k (l.map λp=>(p.1,a.eval p.2))=true:=by
   intro l
   induction l with
   |nil=>intro k _;rfl
   |cons p l ih=>grind [bW]
  simp_all
 have hrun:=lZ (P:=P) (w:=w) (n:=n) ht LK (by grind) wY hsz (by grind);rw[CL]at hrun;generalize pI:(ps.toList.map (·.2)).map a.eval=us at Hq rG hone hrun;have hlen:us.length=n:=by grind
 have kW:(cellsOf us).length=n*sz:=by grind [dx]
 have hlc:zs.length=n*sz:=by rw[<-Hq.length,kW]
 have hB:Below w.heap.size w (w.alloc (.cells (cellsOf us).toArray e)):=(Below.refl _ _).alloc (aX _) _;have lC:n<=maxLen:=by
  have:n*1<=n*sz:=F7 _ hsz
  grind [maxLen]
 have key:=hw.Ec (o:=⟨e,sz,zs⟩) (cur:=(cellsOf us).toArray) (c:=n) hB (heap_alloc_new w _) O lC (by grind) (by grind) O;refine⟨.slice (some ⟨w.heap.size,0,none⟩) n n,_,_,?_,hw.nP _ _,key,?_⟩
 .have afo:ps.map (λ(p:Nat×Operand)=>(p.1,a.eval p.2))=((ps.map λ(i,x)=>(i,a.eval x)).toList).toArray:=by grind
  simp only[execOp,ho,Sem.run_bind];have CM:(Instr.buildSlice t n (ps.map λ(x:Nat×Operand)=>(x.1,a.eval x.2))).run P w= .ok (.slice (some ⟨w.heap.size,0,none⟩) n n) (w.alloc (.cells (cellsOf us).toArray e)):=O;rw[CM];rfl
 .have:=bJ.view (g:=g.eN st.tb.nx w.heap.size n) (id:=st.tb.nx) (b:=w.heap.size) (c:=n) (o:=0) (n:=n) (s:=sz) (a:=some ⟨w.heap.size,0,none⟩) (by simp[G.eN]) O lC (by
   rcases oq n with h0|h0
   .exact .void h0 (.inr ⟨_,rfl⟩)
   .exact .real 0 h0 rfl (λ_=>H)) (m:=some n) (λk hk=>by grind)
  omega
end
section
variable{P:Program}{st:AS}{o:Oper}
theorem wC{M:Mem}:∀{vs:List Value},(∀v∈vs,v.oneCell'=true)->cellsOf vs=vs
 |[],_=>rfl
 |v::vs,h=>by
  have h1:v.cells=#[v]:=by have:=h v H;cases v<;>simp_all [Value.cells,Value.oneCell']
  have h2:=wC (M:=M) (vs:=vs) (λu hu=>h u (by grind))
  grind [cellsOf]
theorem Yv{t:TypeId}{x:Operand}{id m:Nat}{ag:Bool}{ob:Ob}{zs:List PC}(ho:o.op= .slice t x none none none)(hx:bT st.sl x= .obj id 0)(hl:lk id st.tb.bx=some ob)(hA:kZ P t=some (m,1,ag))(hxs:ob.xs=zs.map .p)(hsz:ob.sz=m)(hlen:zs.length=m)(hm:0<m)(hmm:m<=maxLen):eV P st o (.full zs) ⟨del id st.tb.bx,st.tb.rw,st.tb.nx+1⟩:=cg λw0 M0 F g a w hw h=>by
 have e1:=h x (by simp[ho,Op.operands]);rw[hx]at e1;generalize hv:a.eval x=v at e1;cases e1 with
 |obj e=>
  rename_i b c;have hne:ob.xs≠[]:=λh0=>by simp_all
  have iQ:=(hw.boxes id ob hl).pos e hne;obtain⟨N,hM,hS,hR⟩:=hw.AE (n:=1) (ys:=[.agg false zs]) hl e iQ O iQ (by grind) (by grind [bA]) rfl (by grind [PC.width]) (by simp[cE]);have hS':=hS.su st.tb.nx;have htb:(((st.tb.cV id).cC ob.el ob.sz).su st.tb.nx).rw=del st.tb.nx st.tb.rw:=by grind [Tb.su,Tb.cC,Tb.cV,del]
  have hS2:bf w0 M0 F ⟨del id st.tb.bx,st.tb.rw,st.tb.nx+1⟩ ((g.with N).ez st.tb.nx (.slice (some ⟨b,0,none⟩) 1 c)) w:=by
   refine hS'.sub (λi p e=>e) (λi r e=>?_) (aX _);rw[htb,cQ];rw[ah]
   .omega
   .intro hi;obtain⟨el,sz⟩:=r;obtain⟨v,O',_⟩:=hw.rows i el sz e;have:=hw.pO O';omega
  have SM:(g.with N).le ((g.with N).ez st.tb.nx (.slice (some ⟨b,0,none⟩) 1 c)):=⟨Mem.le_refl _,λ_ _ e=>e,λi p e=>by have:=hw.pO e;grind [G.ez]⟩;refine⟨.slice (some ⟨b,0,none⟩) m m,w,_,?_,(G.qJ hM).trans SM,hS2,?_⟩
  .unfold kZ at hA;split at hA
   .rename_i m' el hU;split at hA
    .rename_i s' a' hs' KO;injection hA with hA;obtain⟨rfl,rfl,rfl⟩:=U hA;simp[execOp,ho,hv,Instr.sliceAt,Instr.sliceBounds,Instr.sureAddr,run_underlying hU,run_sizeOf hs',Addr.add]
    grind
   grind
  .refine .full ?_;cases hR with
   |sl hn hc hmx Yw hu h1 eM hs=>
    rename_i us;cases hs with
    |cons hr hs=>
     cases hs;cases hr with
     |agg qu hone=>
      rename_i vs;have hcell:cellsOf [Value.agg vs.toArray]=vs:=by simp[cellsOf,Value.cells]
      rw[hcell]at eM;have Ft:=qu.length;exact .sl (us:=vs) (sz:=1) O (aX _) hmm (by decide) (λu hu=>by have:=hone u hu;cases u<;>simp_all [Value.cells,Value.oneCell']) (by rw[wC (M:=N) hone];omega) (by rw[wC (M:=N) hone];exact eM) qu
end
section
variable{P:Program}{st:AS}{o:Oper}{w0:World}{M0:Mem}{F:Nat->Prop}{tb:Tb}{g:G}{w w':World}
def bf.aen(h:bf w0 M0 F tb g w){id b c c':Nat}{ob lG:Ob}(hl:lk id tb.bx=some ob)(he:g.ob id=some (b,c))(hel:lG.el=ob.el)(hsz:lG.sz=ob.sz){n:Nat}(hx:lG.xs=ob.xs.take n)(hcc:c'<=c)(hc0:c'=0->n=0):bf w0 M0 F ((tb.cV id).bD lG) (g.eN tb.nx b c') w:=by
 have hle:=h.nP b c';have hid:id<tb.nx:=h.Eb he;refine⟨h.holds,h.keep,h.old,h.HC,λi p e=>?_,λi el sz e=>?_,λi j p q b1 c1 b2 c2 ei ej hij e1 e2 p1 p2=>?_,h.jA,λi j p r b1 c1 v ei ej e1 e2 p1=>?_,λi hi=>?_⟩
 .simp only[Tb.bD,Tb.cV,bP]at e;split at e
  .rename_i hi;subst hi;injection e with e;subst e;refine⟨b,c',by simp[G.eN],λhc=>?_,λhc=>?_⟩
   .obtain⟨cur,f2,f3,f4,f5,f6,f7,f8,f9⟩:=(h.boxes id ob hl).real he O;have hlen:lG.xs.length<=ob.xs.length:=by grind
    have hsub:cur.toList.take lG.xs.length=(cur.toList.take ob.xs.length).take lG.xs.length:=by grind
    have hxs:lG.xs=ob.xs.take lG.xs.length:=by grind
    refine⟨cur,f2,f3,by grind,by rw[hsz];exact cT (yc _ hcc) f5,O,O,?_,f9⟩
    .rw[hsub];have:=(f8.mono hle).take lG.xs.length
     grind
   grind
  .rename_i hi;rw[cQ]at e;split at e
   .grind
   .obtain⟨b1,c1,f1,fr,f0⟩:=h.boxes i p e;refine⟨b1,c1,hle.ob _ _ f1,λhp=>?_,f0⟩;obtain⟨uU,f2,f3,f4,f5,f6,f7,f8,f9⟩:=fr hp;exact⟨uU,f2,f3,f4,f5,f6,f7,f8.mono hle,f9⟩
 .obtain⟨v,f1,f2⟩:=h.rows i el sz e;exact⟨v,f1,f2⟩
 .simp only[Tb.bD,Tb.cV,bP,cQ]at ei ej;simp only[G.eN]at e1 e2;split at ei
  .rename_i hi;rw[ai hi]at e1;injection e1 with e1;injection e1 with e1 e1';subst e1;subst e1';split at ej
   .omega
   .rename_i hj;rw[ah hj]at e2;split at ej
    .grind
    .rename_i hjd;exact h.iC id j ob q b c b2 c2 hl ej (λhh=>hjd hh.symm) he e2 O p2
  .rename_i hi;rw[ah hi]at e1;split at ei
   .grind
   .rename_i aeo;split at ej
    .rename_i hj;rw[ai hj]at e2;injection e2 with e2;injection e2 with e2 e2';subst e2;subst e2';exact h.iC i id p ob b1 c1 b c ei hl aeo e1 he p1 O
    .rename_i hj;rw[ah hj]at e2;split at ej
     .grind
     .exact h.iC i j p q b1 c1 b2 c2 ei ej hij e1 e2 p1 p2
 .simp only[Tb.bD,Tb.cV,bP,cQ]at ei;simp only[G.eN]at e1;split at ei
  .rename_i hi;rw[ai hi]at e1;injection e1 with e1;injection e1 with e1 e1';subst e1;subst e1';exact h.gS id j ob r b c v hl ej he e2 O
  .rename_i hi;rw[ah hi]at e1;split at ei
   .grind
   .exact h.gS i j p r b1 c1 v ei ej e1 e2 p1
 .simp only[Tb.bD,Tb.cV]at hi;have:=h.fresh i O
  grind [G.eN]
theorem aep{t:TypeId}{x:Operand}{hi mx:Operand}{id n s:Nat}{m:Option Nat}{ob:Ob}{k1 k2:IntKind}(ho:o.op= .slice t x none (some hi) (some mx))(hx:bT st.sl x= .view id 0 n s m)(hsz:aO P t=some s)(hl:lk id st.tb.bx=some ob)(hos:ob.sz=s)(hhi:(bT st.sl hi).nm= .p (.sc (.int k1 n)))(hmx:(bT st.sl mx).nm= .p (.sc (.int k2 n))):eV P st o (.view st.tb.nx 0 n s (some n)) ((st.tb.cV id).bD ⟨ob.el,ob.sz,ob.xs.take (n*s)⟩):=cg λw0 M0 F g a w hw hr=>by
 have e1:=hr x (by simp[ho,Op.operands]);rw[hx]at e1;have e2:=cu (hr hi (by simp[ho,Op.operands]));rw[hhi]at e2;have e3:=cu (hr mx (by simp[ho,Op.operands]));rw[hmx]at e3;have e2:=bU e2;have e3:=bU e3;obtain⟨el,hU,hs⟩:=jE hsz;generalize hv:a.eval x=v at e1;cases e1 with
 |view e h4 h5 h6 hm=>
  rename_i b cc ad;have hb:=sD (P:=P) (n:=n) (cap:=cc) (l:=0) (h:=n) (m:=n) (lo:=none) (k1:=k1) (k2:=k2) (.inl ⟨rfl,rfl⟩) O O O w;have h1:=hw.aen (id:=id) (c':=n) (lG:=⟨ob.el,ob.sz,ob.xs.take (n*s)⟩) hl e rfl rfl rfl O (λh=>by grind);refine⟨.slice ad n n,w,g.eN st.tb.nx b n,?_,hw.nP _ _,h1,?_⟩
  .have hd:Option.map (λx:Addr=>x.add 0) ad=ad:=by cases ad with
    |none=>rfl
    |some ad=>simp[Addr.add]
   simp[execOp,ho,hv,e2,e3,Instr.sliceAt,Instr.slice,run_underlying hU,hb,run_sizeOf hs,hd]
  .have AF:BJ ad b n 0 s:=by
    cases h6 with
    |void h0 AF=>exact .void O AF
    |real off iQ had h5=>
     subst had;rcases oq n with h0|h0
     .subst h0;exact .void rfl (.inr ⟨_,rfl⟩)
     .exact .real off h0 rfl (λ_=>h5 (.inl iQ))
   have:=bJ.view (g:=g.eN st.tb.nx b n) (id:=st.tb.nx) (b:=b) (c:=n) (o:=0) (n:=n) (s:=s) (a:=ad) (m:=some n) (by simp[G.eN]) O O AF (λk hk=>by grind);omega
end
end Go.Av
