/- DiskShapes, part 5: an abstract interpreter over any program's form, with its proof of soundness; no condition. -/
import Derived.Test.YtgkdpbambfgahaaGreatDoorWad
import Derived.Laws.Externs
set_option linter.all false
set_option maxRecDepth 100000
set_option maxHeartbeats 64000000
namespace Go.Av
open Go.RowKit
section
variable{P:Program}{st:AS}{o:Oper}{w0:World}{M0:Mem}{F:Nat->Prop}{tb:Tb}{g:G}{w w':World}
theorem aQ.OC(h:aQ w0 M0 F tb g w){id b c:Nat}{ob jh:Ob}(hl:lk id tb.bx=some ob)(he:g.ob id=some (b,c))(hel:jh.el=ob.el)(hsz:jh.sz=ob.sz){n:Nat}(hx:jh.xs=ob.xs.take n):aQ w0 M0 F ((tb.cD id).aS jh) (g.dw tb.nx b c) w:=by
 have hle:=h.mD b c;have hid:id<tb.nx:=h.AF he;refine⟨h.holds,h.keep,h.old,h.Dm,fun i p e=>?_,fun i el sz e=>?_,fun i j p q b1 c1 b2 c2 ei ej hij e1 e2 p1 p2=>?_,h.ia,fun i j p r b1 c1 v ei ej e1 e2 p1=>?_,fun i hi=>?_⟩
 ·simp only[Tb.aS,Tb.cD,a_]at e;split at e
  ·rename_i hi;subst hi;injection e with e;subst e;refine⟨b,c,by simp[G.dw],fun hc=>?_,fun hc=>?_⟩
   ·obtain⟨cur,f2,f3,f4,f5,f6,f7,f8,f9⟩:=(h.boxes id ob hl).real he hc;have hlen:jh.xs.length<=ob.xs.length:=by rw[hx,List.length_take];omega
    have hsub:cur.toList.take jh.xs.length=(cur.toList.take ob.xs.length).take jh.xs.length:=by rw[List.take_take,Nat.min_eq_left hlen]
    have hxs:jh.xs=ob.xs.take jh.xs.length:=by rw[hx,List.length_take,<-List.take_take,List.take_length]
    refine⟨cur,f2,f3,by rw[hel];exact f4,by rw[hsz];exact f5,f6,by omega,?_,f9⟩
    ·rw[hsub];have:=(f8.mono hle).take jh.xs.length;rw[<-hxs]at this;exact this
   ·obtain⟨b',c',h1,_,h2⟩:=h.boxes id ob hl;rw[h1]at he;injection he with he;injection he with e1 e2;subst e1;subst e2;rw[hx,h2 hc];simp
  ·rename_i hi;rw[cu]at e;split at e
   ·cases e
   ·obtain⟨b1,c1,f1,fr,f0⟩:=h.boxes i p e;refine⟨b1,c1,hle.ob _ _ f1,fun hp=>?_,f0⟩;obtain⟨qg,f2,f3,f4,f5,f6,f7,f8,f9⟩:=fr hp;exact⟨qg,f2,f3,f4,f5,f6,f7,f8.mono hle,f9⟩
 ·obtain⟨v,f1,f2⟩:=h.rows i el sz e;exact⟨v,f1,f2⟩
 ·simp only[Tb.aS,Tb.cD,a_,cu]at ei ej;simp only[G.dw]at e1 e2;split at ei
  ·rename_i hi;rw[if_pos hi]at e1;injection e1 with e1;injection e1 with e1 Lw;subst e1;subst Lw;split at ej
   ·rename_i hj;omega
   ·rename_i hj;rw[if_neg hj]at e2;split at ej
    ·cases ej
    ·rename_i hjd;exact h.f_ id j ob q b c b2 c2 hl ej (fun hh=>hjd hh.symm) he e2 p1 p2
  ·rename_i hi;rw[if_neg hi]at e1;split at ei
   ·cases ei
   ·rename_i Wd;split at ej
    ·rename_i hj;rw[if_pos hj]at e2;injection e2 with e2;injection e2 with e2 e2';subst e2;subst e2';exact h.f_ i id p ob b1 c1 b c ei hl Wd e1 he p1 p2
    ·rename_i hj;rw[if_neg hj]at e2;split at ej
     ·cases ej
     ·exact h.f_ i j p q b1 c1 b2 c2 ei ej hij e1 e2 p1 p2
 ·simp only[Tb.aS,Tb.cD,a_,cu]at ei;simp only[G.dw]at e1;split at ei
  ·rename_i hi;rw[if_pos hi]at e1;injection e1 with e1;injection e1 with e1 Lw;subst e1;subst Lw;exact h.fj id j ob r b c v hl ej he e2 p1
  ·rename_i hi;rw[if_neg hi]at e1;split at ei
   ·cases ei
   ·exact h.fj i j p r b1 c1 v ei ej e1 e2 p1
 ·simp only[Tb.aS,Tb.cD]at hi;have:=h.fresh i (by omega);simp only[G.dw];rw[if_neg (by omega)];exact this
theorem aQ.CD(h:aQ w0 M0 F tb g w)(el:TypeId)(sz:Nat):aQ w0 M0 F (tb.aS ⟨el,sz,[]⟩) (g.dw tb.nx 0 0) w:=by
 have hle:=h.mD 0 0;refine⟨h.holds,h.keep,h.old,h.Dm,fun i p e=>?_,fun i el sz e=>?_,fun i j p q b1 c1 b2 c2 ei ej hij e1 e2 p1 p2=>?_,h.ia,fun i j p r b1 c1 v ei ej e1 e2 p1=>?_,fun i hi=>?_⟩
 ·simp only[Tb.aS,a_]at e;split at e
  ·rename_i hi;subst hi;injection e with e;subst e;exact⟨0,0,by simp[G.dw],fun hc=>absurd hc (by omega),fun _=>rfl⟩
  ·obtain⟨b1,c1,f1,fr,f0⟩:=h.boxes i p e;refine⟨b1,c1,hle.ob _ _ f1,fun hp=>?_,f0⟩;obtain⟨qg,f2,f3,f4,f5,f6,f7,f8,f9⟩:=fr hp;exact⟨qg,f2,f3,f4,f5,f6,f7,f8.mono hle,f9⟩
 ·obtain⟨v,f1,f2⟩:=h.rows i el sz e;exact⟨v,f1,f2⟩
 ·simp only[Tb.aS,a_]at ei ej;simp only[G.dw]at e1 e2;split at ei
  ·rename_i hi;rw[if_pos hi]at e1;injection e1 with e1;injection e1 with e1 Lw;omega
  ·rename_i hi;rw[if_neg hi]at e1;split at ej
   ·rename_i hj;rw[if_pos hj]at e2;injection e2 with e2;injection e2 with e2 e2';omega
   ·rename_i hj;rw[if_neg hj]at e2;exact h.f_ i j p q b1 c1 b2 c2 ei ej hij e1 e2 p1 p2
 ·simp only[Tb.aS,a_]at ei;simp only[G.dw]at e1;split at ei
  ·rename_i hi;rw[if_pos hi]at e1;injection e1 with e1;injection e1 with e1 Lw;omega
  ·rename_i hi;rw[if_neg hi]at e1;exact h.fj i j p r b1 c1 v ei ej e1 e2 p1
 ·simp only[Tb.aS]at hi;have:=h.fresh i (by omega);simp only[G.dw];rw[if_neg (by omega)];exact this
def uz(P:Program)(tb:Tb)(u:TypeId)(s:Nat)(y:AV)(k:Nat)(zs:List AV):Prop:=zs.length=k*s/\∀(w0:World) (M0:Mem) (F:Nat->Prop) (g:G) (v:Value) (w:World),aQ w0 M0 F tb g w->aX g v y->∃cs,Src P u s v k cs w/\aJ g cs zs
theorem Ti{u:TypeId}{s id' f' n':Nat}{m':Option Nat}{jh:Ob}(hu:(aH P u).isSome=true)(hl':lk id' tb.bx=some jh)(hf':(f'+n')*s<=jh.xs.length):uz P tb u s (.view id' f' n' s m') n' ((jh.xs.drop (f'*s)).take (n'*s)):=by
 have hzl:((jh.xs.drop (f'*s)).take (n'*s)).length=n'*s:=by
  rw[List.length_take,List.length_drop];rw[Nat.add_mul]at hf';omega
 refine⟨hzl,fun w0 M0 F g v w hw hv=>?_⟩;obtain⟨el,hU⟩:=Gw hu;cases hv with
 |view e h3 h4 h5 hm=>
  rename_i b cc ad;by_cases FG:n'*s=0
  ·refine⟨[],⟨.inl ⟨el,hU⟩,by simp[Builtin.lenOf],?_,?_,by simp,by simp[FG]⟩,?_⟩
   ·cases ad<;>simp only[Builtin.firstCells,FG]<;>rfl
   ·cases ad<;>simp only[Builtin.firstCells,FG]<;>rfl
   ·rw[mB (l:=(jh.xs.drop (f'*s)).take (n'*s)) (by omega)];exact .nil
  ·have hkp:0<n':=Nat.pos_of_ne_zero fun h=>FG (by rw[h];simp);cases h5 with
   |void h0 _=>omega
   |real off g_ had h5=>
   subst had;obtain rfl:=h5 (.inl (by omega));obtain⟨cs,r1,r2,r3,r4,r5⟩:=vD (P:=P) hw hl' e (f'*s) (n'*s) (by rw[<-Nat.add_mul];exact hf');exact⟨cs,⟨.inl ⟨el,hU⟩,by simp[Builtin.lenOf],by simp only[Builtin.firstCells];exact r2,by simp only[Builtin.firstCells];exact r5,r4,r1⟩,r3⟩
theorem Tj{u:TypeId}{s:Nat}{y:AV}{ys:List PC}(hu:(aH P u).isSome=true)(hy:y.nm= .p (.sl ys))(hw':∀y∈ys,y.width=s)(hn:∀y∈ys,cw y=true):uz P tb u s y ys.length (ys.flatMap aU):=⟨vC ys hw',fun w0 M0 F g v w hw hv=>aew hu hw' hn hw (by rw[<-hy];exact bP hv)⟩
theorem Tk{u:TypeId}{s:Nat}{y:AV}(hu:(aH P u).isSome=true)(hy:y.nm= .p .nil):uz P tb u s y 0 []:=by
 refine⟨by simp,fun w0 M0 F g v w hw hv=>?_⟩;obtain⟨el,hU⟩:=Gw hu;have hv:=bP hv;rw[hy]at hv;have:=aZ hv;cases this;exact⟨[],⟨.inl ⟨el,hU⟩,by simp[Builtin.lenOf],by simp[Builtin.firstCells],by simp[Builtin.firstCells],by simp,by simp⟩,.nil⟩
theorem Tl{u:TypeId}{y:AV}{b:ByteArray}(hu:isStr P u=true)(hy:y.nm= .p (.sc (.string b))):uz P tb u 1 y (bs b).length ((af (bs b)).map .p):=by
 refine⟨by simp[af],fun w0 M0 F g v w hw hv=>?_⟩;have hv:=bP hv;rw[hy]at hv;have:=bF hv;subst this;refine⟨_,Iu (P:=P) hu,?_⟩;have:∀l:List UInt8,aJ g (l.map fun b=>Value.int .u8 b.toNat) ((af l).map .p):=fun l=>by
  induction l with
  |nil=>exact .nil
  |cons x l ih=>exact .cons (.p (.sc _ rfl)) ih
 exact this _
def pW(P:Program)(tb:Tb)(u:TypeId)(s:Nat)(k:Nat->List AV->Prop):AV->Prop
 | .view id f n s' _=>s'=s/\(aH P u).isSome=true/\(match lk id tb.bx with
  |some ob=>(f+n)*s<=ob.xs.length/\k n ((ob.xs.drop (f*s)).take (n*s))
  |none=>False)
 |y=>match y.nm with
  | .p (.sl ys)=>(aH P u).isSome=true/\(∀y∈ys,y.width=s)/\(∀y∈ys,cw y=true)/\k ys.length (ys.flatMap aU)
  | .p .nil=>(aH P u).isSome=true/\k 0 []
  | .p (.sc (.string b))=>s=1/\isStr P u=true/\k (bs b).length ((af (bs b)).map .p)
  |_=>False
theorem CV{u:TypeId}{s:Nat}{k:Nat->List AV->Prop}{y:AV}(h:pW P tb u s k y):∃n zs,k n zs/\uz P tb u s y n zs:=by
 unfold pW at h;split at h
 ·obtain⟨rfl,hu,h⟩:=h;split at h
  ·rename_i ob hl;exact⟨_,_,h.2,Ti hu hl h.1⟩
  ·exact h.elim
 ·split at h
  ·rename_i ys hy;obtain⟨h1,h2,h3,h⟩:=h;exact⟨_,_,h,Tj h1 hy h2 h3⟩
  ·rename_i hy;exact⟨_,_,h.2,Tk h.1 hy⟩
  ·rename_i b hy;obtain⟨rfl,h1,h⟩:=h;exact⟨_,_,h,Tl h1 hy⟩
  ·exact h.elim
theorem rD{id f n s:Nat}{cc b:Nat}{ad:Option Addr}{ob:Ob}(hw:aQ w0 M0 F tb g w)(hl:lk id tb.bx=some ob)(ee:g.ob id=some (b,cc))(h3:f+n<=cc)(h5:yh ad b cc f s)(hf:(f+n)*s<=ob.xs.length):∃os:List Value,(Builtin.firstCells s n (.slice ad n (cc-f))).run P w.drew= .ok os.toArray w.drew/\os.length=n*s/\aJ g os ((ob.xs.drop (f*s)).take (n*s))/\∀v∈os,v.oneCell'=true:=by
 rcases Nat.eq_zero_or_pos n with h0|h0
 ·subst h0;refine⟨[],?_,by simp,by simpa using aJ.nil,by simp⟩;cases ad<;>simp[Builtin.firstCells,loadCells,loadCellsFrom]
 ·cases h5 with
  |void h0 _=>omega
  |real off g_ had h5=>
  subst had;obtain rfl:=h5 (.inl (by omega));obtain⟨os,r1,r2,r3,r4,r5⟩:=vD (P:=P) hw hl ee (f*s) (n*s) (by rw[<-Nat.add_mul];exact hf);exact⟨os,by simp only[Builtin.firstCells];exact r5,r1,r3,r4⟩
section
variable{c:Call}{x y:Operand}{t u e:TypeId}{id f n s m bT k:Nat}{ob:Ob}{zs:List AV}
theorem Yd(ho:o.op= .call c)(hc:c.callee= .builtin .append)(ha:c.args=#[x,y])(hts:c.argTypes=#[t,u])(hx:bE st.sl x= .view id f n s (some m))(hl:lk id st.tb.bx=some ob)(hsz:ob.sz=s)(hel:cU P t=some (e,s,bT))(hf:(f+n)*s<=ob.xs.length)(hroom:f+n+k<=m)(hy:uz P st.tb u s (bE st.sl y) k zs):dA P st o (.view id f (n+k) s (some m)) (st.tb.aP id {ob with xs:=ob.xs.take ((f+n)*s)++zs++ob.xs.drop ((f+n)*s+k*s)}):=KG ho hc ha hts hx hl hsz hel hf hroom hy.1 hy.2
theorem Tm(ho:o.op= .call c)(hc:c.callee= .builtin .append)(ha:c.args=#[x,y])(hts:c.argTypes=#[t,u])(hx:bE st.sl x= .view id f n s (some m))(hl:lk id st.tb.bx=some ob)(hel:cU P t=some (e,s,bT))(hf:(f+n)*s<=ob.xs.length)(hy:uz P st.tb u s (bE st.sl y) k zs)(hroom:m-f<n+k)(hbound:(n+k)*bT<=140737488355328)(gZ:n+k<=9223372036854775807):dA P st o (.view st.tb.nx 0 (n+k) s none) (st.tb.aS ⟨e,s,(ob.xs.drop (f*s)).take (n*s)++zs⟩):=bK fun w0 M0 F g a w hw h=>by
 have h1:=h x (by rw[ho];simp[Op.operands,Call.operands,hc,ha]);rw[hx]at h1;have h2:=h y (by rw[ho];simp[Op.operands,Call.operands,hc,ha]);obtain⟨cs,hsrc,hz⟩:=hy.2 w0 M0 F g _ w hw h2;generalize hv:a.eval x=v at h1;cases h1 with
 |view ee h3 h4 h5 hm=>
  rename_i b cc ad;obtain rfl:=hm _ rfl;obtain⟨os,q0,r1,r3,r4⟩:=rD (P:=P) hw hl ee h3 h5 hf;obtain⟨v',w',g',k1,k2,k3,k4⟩:=vl (P:=P) (ty:=o.type) (n:=n) (cap:=cc-f) (ad:=ad) hw hel q0 r3 r4 (by rw[<-r3.length,r1]) hsrc hz hroom hbound gZ;exact⟨v',w',g',by rw[cT ho hc ha hts,hv,k1];rfl,k2,k3,k4⟩
theorem Ye(ho:o.op= .call c)(hc:c.callee= .builtin .append)(ha:c.args=#[x,y])(hts:c.argTypes=#[t,u])(hx:bE st.sl x= .view id 0 n s none)(hl:lk id st.tb.bx=some ob)(hsz:ob.sz=s)(XI:ob.el=e)(hel:cU P t=some (e,s,bT))(hf:n*s<=ob.xs.length)(hy:uz P st.tb u s (bE st.sl y) k zs)(hbound:(n+k)*bT<=140737488355328)(gZ:n+k<=9223372036854775807):dA P st o (.view st.tb.nx 0 (n+k) s none) ((st.tb.cD id).aS ⟨e,s,ob.xs.take (n*s)++zs⟩):=bK fun w0 M0 F g a w hw h=>by
 have h1:=h x (by rw[ho];simp[Op.operands,Call.operands,hc,ha]);rw[hx]at h1;have h2:=h y (by rw[ho];simp[Op.operands,Call.operands,hc,ha]);obtain⟨cs,hsrc,hz⟩:=hy.2 w0 M0 F g _ w hw h2;obtain⟨hU,i,z,hi,_,oW,sE,hzs⟩:=fK hel;generalize hv:a.eval x=v at h1;cases h1 with
 |view ee h3 h4 h5 hm=>
  rename_i b cc ad;by_cases hroom:n+k<=cc
  ·have yf:yh (ad.map fun a=>a.add (n*s)) b cc (0+n) s:=by
    cases h5 with
    |real off g_ had h5=>
     subst had;refine .real (off+n*s) g_ (by simp[Addr.add_lit]) fun hh=>?_;rw[h5 (by omega),Nat.add_mul]
    |void h0 uV=>
     refine .void h0 ?_;rcases uV with rfl|⟨a',rfl⟩
     ·exact .inl rfl
     ·exact .inr ⟨_,rfl⟩
   obtain⟨w',r1,r0,r2⟩:=m_ (P:=P) (f:=0+n) (n:=k) (k:=k) hw hl ee hsz (by omega) yf hz hsrc.one (Nat.le_refl _) hy.1 (by simpa using hf);have hzl:=hy.1;have r3:=r2.OC (id:=id) (ob:={ob with xs:=ob.xs.take ((0+n)*s)++zs++ob.xs.drop ((0+n)*s+zs.length)}) (jh:=⟨e,s,ob.xs.take (n*s)++zs⟩) (n:=n*s+k*s) (by simp[Tb.aP,a_]) ee XI.symm hsz.symm (by
    simp only[Nat.zero_add];have e1:(ob.xs.take (n*s)++zs).length=n*s+k*s:=by rw[dU,List.length_take,hzl];omega
    rw[<-e1];exact(List.take_left' rfl).symm)
   refine⟨.slice ad (n+k) cc,w',g.dw st.tb.nx b cc,?_,hw.mD _ _,r3.sub (fun i o e=>?_) (fun _ _ e=>e) (Nat.le_refl _),?_⟩
   ·rw[cT ho hc ha hts,hv];obtain⟨q1,q2,q3,_,_,_⟩:=hsrc;have hfit:n+k<=cc:=by omega
    subst oW;have:(Builtin.append_ #[t,u] o.type #[.slice ad n (cc-0),a.eval y]).run P w= .ok (.slice ad (n+k) cc) w':=by
     cases ad with
     |none=>
      obtain rfl:=r0 rfl;rcases q1 with⟨e',q1⟩|q1<;>simp[Builtin.append_,run_underlying hU,run_underlying q1,sizeOf,typeInfo,hi,q2,hfit,q3]
     |some ad=>
      have r1:=r1 _ rfl;rcases q1 with⟨e',q1⟩|q1<;>simp[Builtin.append_,run_underlying hU,run_underlying q1,sizeOf,typeInfo,hi,q2,hfit,q3,r1]
    rw[this];rfl
   ·simp only[Tb.aS,Tb.cD,Tb.aP,a_,cu]at e⊢;split at e
    ·rename_i hi;rw[if_pos hi];exact e
    ·rename_i hi;rw[if_neg hi];split at e
     ·cases e
     ·rename_i hid;simp only[if_neg hid]at e⊢;exact e
   ·have:=aX.view (g:=g.dw st.tb.nx b cc) (id:=st.tb.nx) (b:=b) (c:=cc) (o:=0) (n:=n+k) (s:=s) (a:=ad) (m:=none) (by simp[G.dw]) (by omega) h4 h5 (by simp);simpa using this
  ·obtain⟨os,q0,r1,r3,r4⟩:=rD (P:=P) hw hl ee h3 h5 (by simpa using hf);obtain⟨v',w',g',k1,k2,k3,k4⟩:=vl (P:=P) (ty:=o.type) (n:=n) (cap:=cc-0) (ad:=ad) hw hel q0 r3 r4 (by rw[<-r3.length,r1]) hsrc hz (by omega) hbound gZ;simp only[Nat.zero_mul,List.drop_zero]at k3;refine⟨v',w',g',by rw[cT ho hc ha hts,hv,k1];rfl,k2,k3.sub (fun i o e=>?_) (fun _ _ e=>e) (Nat.le_refl _),k4⟩;simp only[Tb.aS,Tb.cD,a_,cu]at e⊢;split at e
   ·rename_i hi;rw[if_pos hi];exact e
   ·rename_i hi;rw[if_neg hi];split at e
    ·cases e
    ·exact e
theorem Yf(ho:o.op= .call c)(hc:c.callee= .builtin .append)(ha:c.args=#[x,y])(hts:c.argTypes=#[t,u])(hx:bE st.sl x= .full []\/bE st.sl x= .p .nil)(hel:cU P t=some (e,s,bT))(hy:uz P st.tb u s (bE st.sl y) k zs)(hbound:k*bT<=140737488355328)(gZ:k<=9223372036854775807):dA P st o (.view st.tb.nx 0 k s none) (st.tb.aS ⟨e,s,zs⟩):=bK fun w0 M0 F g a w hw h=>by
 have h1:=h x (by rw[ho];simp[Op.operands,Call.operands,hc,ha]);have h2:=h y (by rw[ho];simp[Op.operands,Call.operands,hc,ha]);obtain⟨cs,hsrc,hz⟩:=hy.2 w0 M0 F g _ w hw h2;obtain⟨hU,i,z,hi,_,oW,sE,hzs⟩:=fK hel;obtain⟨ad,hv,uV⟩:∃ad,a.eval x= .slice ad 0 0/\(ad=none\/∃a',ad=some a'):=by
  rcases hx with hx|hx
  ·rw[hx]at h1;generalize a.eval x=v at h1;cases h1 with
   |full hr=>cases hr with
    |cX=>exact⟨none,rfl,.inl rfl⟩
    |rH a=>exact⟨_,rfl,.inr ⟨_,rfl⟩⟩
    |sl hn _ _ _ _ _ _ hs=>have:=hs.length;simp at this;rw[this]at hn;simp at hn;subst hn;exact⟨_,rfl,.inr ⟨_,rfl⟩⟩
  ·rw[hx]at h1;have:=aZ h1;generalize a.eval x=v at this;cases this;exact⟨none,rfl,.inl rfl⟩
 rcases Nat.eq_zero_or_pos k with hk|hk
 ·subst hk;have hz0:zs=[]:=mB (by rw[hy.1];simp);subst hz0;have hcs:cs=[]:=by cases hz;rfl
  subst hcs;subst oW;refine⟨.slice ad 0 0,w,g.dw st.tb.nx 0 0,?_,hw.mD _ _,hw.CD e i.size,?_⟩
  ·rw[cT ho hc ha hts,hv,o6 hU hi hsrc (Nat.le_refl _)];rfl
  ·have:=aX.view (g:=g.dw st.tb.nx 0 0) (id:=st.tb.nx) (b:=0) (c:=0) (o:=0) (n:=0) (s:=i.size) (a:=ad) (m:=none) (by simp[G.dw]) (by omega) (by unfold maxLen;omega) (.void rfl uV) (by simp);simpa using this
 ·obtain⟨v',w',g',k1,k2,k3,k4⟩:=vl (P:=P) (ty:=o.type) (n:=0) (cap:=0) (ad:=ad) (olds:=[]) (zo:=[]) hw hel (by cases ad<;>simp[Builtin.firstCells,loadCells,loadCellsFrom]) .nil (by simp) (by simp) hsrc hz (by omega) (by simpa using hbound) (by omega);simp only[Nat.zero_add,List.nil_append]at k3 k4;exact⟨v',w',g',by rw[cT ho hc ha hts,hv,k1];rfl,k2,k3,k4⟩
end
end
section
variable{P:Program}{st:AS}{o:Oper}{w0:World}{M0:Mem}{F:Nat->Prop}{tb:Tb}{g:G}{w w':World}
theorem Ao{t u ty e:TypeId}{i:TypeInfo}{z:Value}{kd xm:IntKind}(ht:P.underlying t=some (.slice e))(hu:P.underlying u=some (.int kd))(hi:P.info? e=some i)(hz:i.zero=some z)(hsz:0<i.size){s:Value}{a:Option Addr}{sLen sCap j:Nat}{olds:List Value}{w:World}(hzs:z.cells.size=i.size)(hs:s= .slice a sLen sCap)(hold:(Builtin.firstCells i.size sLen s).run P w.drew= .ok olds.toArray w.drew)(hroom:sCap<sLen+j)(h63:sLen+j<=9223372036854775807)(hfit:Builtin.nextslicecap (sLen+j) sCap*i.bytes<=281474976710656)(hj:j*i.bytes<=281474976710656)(hjp:0<j):(Builtin.append_ #[t,u] ty #[s,.int xm j]).run P w= .ok (.slice (some ⟨w.heap.size,0,none⟩) (sLen+j) (grownCap w (sLen+j) sCap e)) (w.drew.alloc (.cells (olds.toArray++Builtin.zeroCells z.cells j++Builtin.zeroCells z.cells (grownCap w (sLen+j) sCap e-(sLen+j))) e)):=by
 have hn:¬(sLen+j<=sCap):=by omega
 have h63':¬(9223372036854775807<((sLen:Int)+(j:Int))):=by omega
 have Wy:¬(281474976710656<Builtin.nextslicecap (sLen+j) sCap*i.bytes):=by omega
 have hwr:IntKind.i64.wrap (j:Int)=j:=IntWalk.i64_in _ ⟨by omega,by omega⟩;have hjb:¬(281474976710656<(j:Int)*(i.bytes:Int)):=by
  have:((j*i.bytes:Nat):Int)<=281474976710656:=Int.ofNat_le.2 hj;rw[Int.natCast_mul]at this;omega
 have hneg:¬((j:Int)<0):=by omega
 have h0:¬(j*i.size=0):=fun h=>by rcases Nat.mul_eq_zero.1 h with h|h<;>omega
 subst hs;simp[Builtin.append_,run_underlying ht,run_underlying hu,sizeOf,typeInfo,zeroValue,hi,hz,hn,h63',Wy,Question.forced,hold,newRow,grownCap,asInt,asIntOf,hwr,hjb,hneg];intro h;exact absurd h h0
theorem sI{t u ty e:TypeId}{s bT n cap j:Nat}{kd xm:IntKind}(hw:aQ w0 M0 F tb g w)(hel:cU P t=some (e,s,bT))(hu:P.underlying u=some (.int kd)){z:List PC}(hz:bG P e=some z)(hs:0<s){ad:Option Addr}{olds:List Value}{zo:List AV}(hold:(Builtin.firstCells s n (.slice ad n cap)).run P w.drew= .ok olds.toArray w.drew)(ho:aJ g olds zo)(ho1:∀v∈olds,v.oneCell'=true)(zX:zo.length=n*s)(hj:0<j)(hgrow:cap<n+j)(hbound:(n+j)*bT<=140737488355328)(gZ:n+j<=9223372036854775807):∃v' w' g',(Builtin.append_ #[t,u] ty #[.slice ad n cap,.int xm j]).run P w= .ok v' w'/\g.le g'/\aQ w0 M0 F (tb.aS ⟨e,s,zo++(fW j z).map .p⟩) g' w'/\aX g' v' (.view tb.nx 0 (n+j) s none):=by
 obtain⟨hU,i,zv,hi,Am,oW,sE,hzs⟩:=fK hel;obtain⟨U0,oC,rfl,hone⟩:=uo hz hi;rw[Am]at oC;injection oC with oC;subst oC;subst oW;have hfit:Builtin.nextslicecap (n+j) cap*i.bytes<=281474976710656:=growslice_fits hgrow (by rw[sE];exact hbound);have hjb:j*i.bytes<=281474976710656:=by
  have:j*i.bytes<=(n+j)*bT:=by rw[sE];exact Nat.mul_le_mul_right _ (by omega)
  omega
 have hrun:=Ao (P:=P) (ty:=ty) (xm:=xm) hU hu hi Am hs hzs rfl hold hgrow gZ hfit hjb hj;have hge:=grownCap_ge w (n+j) cap e;have hcm:=grownCap_le_maxLen w (n+j) cap e (by unfold maxLen;omega);generalize grownCap w (n+j) cap e=C at*;have hlo:=ho.length;have uq:=oV (z:=zv.cells) (by omega) j;have hr:=rC j (Builtin.zeroCells zv.cells j) uq g.M hone;have xR:(olds.toArray++Builtin.zeroCells zv.cells j++Builtin.zeroCells zv.cells (C-(n+j))).size=C*i.size:=by
  simp only[Array.size_append,List.size_toArray,size_zeroCells,hzs,hlo,zX];rw[<-Nat.add_mul,<-Nat.add_mul];congr 1;omega
 have hB:Below w.drew.heap.size w.drew (w.drew.alloc (.cells (olds.toArray++Builtin.zeroCells zv.cells j++Builtin.zeroCells zv.cells (C-(n+j))) e)):=(Below.refl _ _).alloc (Nat.le_refl _) _;have hlen:(zo++(fW j (zv.cells.toList.map c1)).map AV.p).length=(olds++(Builtin.zeroCells zv.cells j).toList).length:=by
  simp only[dU,hlo,List.length_map,qw,Array.length_toList,size_zeroCells]
 have t_:(olds.toArray++Builtin.zeroCells zv.cells j++Builtin.zeroCells zv.cells (C-(n+j))).toList.take (zo++(fW j (zv.cells.toList.map c1)).map AV.p).length=olds++(Builtin.zeroCells zv.cells j).toList:=by
  rw[hlen];simp only[Array.toList_append];rw[List.take_append_of_le_length (by simp)];exact fY (by simp)
 have hle:(zo++(fW j (zv.cells.toList.map c1)).map AV.p).length<=(olds.toArray++Builtin.zeroCells zv.cells j++Builtin.zeroCells zv.cells (C-(n+j))).size:=by rw[hlen];simp only[Array.size_append,List.size_toArray,dU,Array.length_toList];omega
 have key:=hw.drew.AG (o:=⟨e,i.size,zo++(fW j (zv.cells.toList.map c1)).map AV.p⟩) (c:=C) hB (heap_alloc_new w.drew _) xR hcm hle (by rw[t_];exact ho.append (jZ hr.1)) (by
  intro v hv;simp only[Array.toList_append,iR]at hv;rcases hv with(hv|hv)|hv
  ·exact ho1 v (by simpa using hv)
  ·exact hr.2 v hv
  ·exact A9 hone v hv)
 exact⟨_,_,_,hrun,hw.drew.mD _ _,key,by
  have:=aX.view (g:=g.dw tb.nx w.drew.heap.size C) (id:=tb.nx) (b:=w.drew.heap.size) (c:=C) (o:=0) (n:=n+j) (s:=i.size) (a:=some ⟨w.drew.heap.size,0,none⟩) (m:=none) (by simp[G.dw]) (by omega) hcm (.real 0 (by omega) rfl (fun _=>by simp)) (by simp);simpa using this⟩
section
variable{c:Call}{x y:Operand}{t u e:TypeId}{id f n s m bT j:Nat}{ob:Ob}{z:List PC}{kd xm:IntKind}
theorem sJ{t:TypeId}{k:IntKind}(h:Av.intOf P t=some k):P.underlying t=some (.int k):=by
 unfold Av.intOf at h;split at h
 ·rename_i hU;injection h with h;subst h;exact hU
 ·cases h
theorem SW(ho:o.op= .call c)(hc:c.callee= .builtin .append)(ha:c.args=#[x,y])(hts:c.argTypes=#[t,u])(hx:bE st.sl x= .view id f n s (some m))(hl:lk id st.tb.bx=some ob)(hel:cU P t=some (e,s,bT))(hs:0<s)(hf:(f+n)*s<=ob.xs.length)(hu:Av.intOf P u=some kd)(hz:bG P e=some z)(hy:(bE st.sl y).nm= .p (.sc (.int xm j)))(hj:0<j)(hroom:m-f<n+j)(hbound:(n+j)*bT<=140737488355328)(gZ:n+j<=9223372036854775807):dA P st o (.view st.tb.nx 0 (n+j) s none) (st.tb.aS ⟨e,s,(ob.xs.drop (f*s)).take (n*s)++(fW j z).map .p⟩):=bK fun w0 M0 F g a w hw h=>by
 have h1:=h x (by rw[ho];simp[Op.operands,Call.operands,hc,ha]);rw[hx]at h1;have h2:=bP (h y (by rw[ho];simp[Op.operands,Call.operands,hc,ha]));rw[hy]at h2;have h2:=bF h2;generalize hv:a.eval x=v at h1;cases h1 with
 |view ee h3 h4 h5 hm=>
  rename_i b cc ad;obtain rfl:=hm _ rfl;obtain⟨os,q0,r1,r3,r4⟩:=rD (P:=P) hw hl ee h3 h5 hf;obtain⟨v',w',g',k1,k2,k3,k4⟩:=sI (P:=P) (ty:=o.type) (xm:=xm) (n:=n) (cap:=cc-f) (ad:=ad) hw hel (sJ hu) hz hs q0 r3 r4 (by rw[<-r3.length,r1]) hj hroom hbound gZ;exact⟨v',w',g',by rw[cT ho hc ha hts,hv,h2,k1];rfl,k2,k3,k4⟩
theorem OB(ho:o.op= .call c)(hc:c.callee= .builtin .append)(ha:c.args=#[x,y])(hts:c.argTypes=#[t,u])(hx:bE st.sl x= .view id 0 n s none)(hl:lk id st.tb.bx=some ob)(hsz:ob.sz=s)(XI:ob.el=e)(hel:cU P t=some (e,s,bT))(hs:0<s)(hf:n*s<=ob.xs.length)(hu:Av.intOf P u=some kd)(hz:bG P e=some z)(hy:(bE st.sl y).nm= .p (.sc (.int xm j)))(hj:0<j)(hbound:(n+j)*bT<=140737488355328)(gZ:n+j<=9223372036854775807):dA P st o (.view st.tb.nx 0 (n+j) s none) ((st.tb.cD id).aS ⟨e,s,ob.xs.take (n*s)++(fW j z).map .p⟩):=bK fun w0 M0 F g a w hw h=>by
 have h1:=h x (by rw[ho];simp[Op.operands,Call.operands,hc,ha]);rw[hx]at h1;have h2:=bP (h y (by rw[ho];simp[Op.operands,Call.operands,hc,ha]));rw[hy]at h2;have h2:=bF h2;obtain⟨hU,i,zv,hi,Am,oW,sE,hzs⟩:=fK hel;obtain⟨U0,oC,adW,hone⟩:=uo hz hi;have hzc:U0.cells=zv.cells:=by rw[Am]at oC;injection oC with h;rw[h]
 have hul:=sJ hu;generalize hv:a.eval x=v at h1;cases h1 with
 |view ee h3 h4 h5 hm=>
  rename_i b cc ad;by_cases hroom:n+j<=cc
  ·have yf:yh (ad.map fun a=>a.add (n*s)) b cc (0+n) s:=by
    cases h5 with
    |real off g_ had h5=>
     subst had;refine .real (off+n*s) g_ (by simp[Addr.add_lit]) fun hh=>?_;rw[h5 (by omega),Nat.add_mul]
    |void h0 uV=>
     refine .void h0 ?_;rcases uV with rfl|⟨a',rfl⟩
     ·exact .inl rfl
     ·exact .inr ⟨_,rfl⟩
   have uq:=oV (z:=U0.cells) (by rw[hzc];omega) j;have hr:=rC j (Builtin.zeroCells U0.cells j) uq g.M hone;have hzl:(fW j z).length=j*s:=by rw[qw,adW,List.length_map,Array.length_toList,hzc,hzs]
   obtain⟨w',r1,r0,r2⟩:=m_ (P:=P) (f:=0+n) (n:=j) (k:=j) hw hl ee hsz (by omega) yf (cs:=(Builtin.zeroCells U0.cells j).toList) (zs:=(fW j z).map .p) (by rw[adW];exact jZ hr.1) hr.2 (Nat.le_refl _) (by rw[List.length_map,hzl]) (by simpa using hf);have r3:=r2.OC (id:=id) (ob:={ob with xs:=ob.xs.take ((0+n)*s)++(fW j z).map .p++ob.xs.drop ((0+n)*s+((fW j z).map AV.p).length)}) (jh:=⟨e,s,ob.xs.take (n*s)++(fW j z).map .p⟩) (n:=n*s+j*s) (by simp[Tb.aP,a_]) ee XI.symm hsz.symm (by
    simp only[Nat.zero_add];have e1:(ob.xs.take (n*s)++(fW j z).map AV.p).length=n*s+j*s:=by rw[dU,List.length_take,List.length_map,hzl];omega
    rw[<-e1];exact(List.take_left' rfl).symm)
   refine⟨.slice ad (n+j) cc,w',g.dw st.tb.nx b cc,?_,hw.mD _ _,r3.sub (fun i o e=>?_) (fun _ _ e=>e) (Nat.le_refl _),?_⟩
   ·rw[cT ho hc ha hts,hv,h2];have hwr:IntKind.i64.wrap (j:Int)=j:=IntWalk.i64_in _ ⟨by omega,by omega⟩;have hjn:j*i.bytes<=281474976710656:=by
     have:j*i.bytes<=(n+j)*bT:=by rw[sE];exact Nat.mul_le_mul_right _ (by omega)
     omega
    have hjb:¬(281474976710656<(j:Int)*(i.bytes:Int)):=by
     have:((j*i.bytes:Nat):Int)<=281474976710656:=Int.ofNat_le.2 hjn;rw[Int.natCast_mul]at this;omega
    have hneg:¬((j:Int)<0):=by omega
    have h0:¬(j=0\/i.size=0):=by rintro(h|h)<;>omega
    have Lv:¬i.size=0:=by omega
    have hj0:¬j=0:=by omega
    subst oW;have adX:i.zero=some U0:=oC;have:(Builtin.append_ #[t,u] o.type #[.slice ad n (cc-0),.int xm j]).run P w= .ok (.slice ad (n+j) cc) w':=by
     cases ad with
     |none=>
      obtain rfl:=r0 rfl;simp[Builtin.append_,run_underlying hU,run_underlying hul,sizeOf,typeInfo,zeroValue,hi,adX,hroom,asInt,asIntOf,hwr,hjb,hneg]
     |some ad=>
      have r1:=r1 _ rfl;simp[Builtin.append_,run_underlying hU,run_underlying hul,sizeOf,typeInfo,zeroValue,hi,adX,hroom,asInt,asIntOf,hwr,hjb,hneg,r1];intro h;exact absurd h (by intro h;rcases Nat.mul_eq_zero.1 h with h|h<;>omega)
    rw[this];rfl
   ·simp only[Tb.aS,Tb.cD,Tb.aP,a_,cu]at e⊢;split at e
    ·rename_i hi;rw[if_pos hi];exact e
    ·rename_i hi;rw[if_neg hi];split at e
     ·cases e
     ·rename_i hid;simp only[if_neg hid]at e⊢;exact e
   ·have:=aX.view (g:=g.dw st.tb.nx b cc) (id:=st.tb.nx) (b:=b) (c:=cc) (o:=0) (n:=n+j) (s:=s) (a:=ad) (m:=none) (by simp[G.dw]) (by omega) h4 h5 (by simp);simpa using this
  ·obtain⟨os,q0,r1,r3,r4⟩:=rD (P:=P) hw hl ee h3 h5 (by simpa using hf);obtain⟨v',w',g',k1,k2,k3,k4⟩:=sI (P:=P) (ty:=o.type) (xm:=xm) (n:=n) (cap:=cc-0) (ad:=ad) hw hel hul hz hs q0 r3 r4 (by rw[<-r3.length,r1]) hj (by omega) hbound gZ;simp only[Nat.zero_mul,List.drop_zero]at k3;refine⟨v',w',g',by rw[cT ho hc ha hts,hv,h2,k1];rfl,k2,k3.sub (fun i o e=>?_) (fun _ _ e=>e) (Nat.le_refl _),k4⟩;simp only[Tb.aS,Tb.cD,a_,cu]at e⊢;split at e
   ·rename_i hi;rw[if_pos hi];exact e
   ·rename_i hi;rw[if_neg hi];split at e
    ·cases e
    ·exact e
theorem OD(ho:o.op= .call c)(hc:c.callee= .builtin .append)(ha:c.args=#[x,y])(hts:c.argTypes=#[t,u])(hx:bE st.sl x= .full []\/bE st.sl x= .p .nil)(hel:cU P t=some (e,s,bT))(hs:0<s)(hu:Av.intOf P u=some kd)(hz:bG P e=some z)(hy:(bE st.sl y).nm= .p (.sc (.int xm j)))(hj:0<j)(hbound:j*bT<=140737488355328)(gZ:j<=9223372036854775807):dA P st o (.view st.tb.nx 0 j s none) (st.tb.aS ⟨e,s,(fW j z).map .p⟩):=bK fun w0 M0 F g a w hw h=>by
 have h1:=h x (by rw[ho];simp[Op.operands,Call.operands,hc,ha]);have h2:=bP (h y (by rw[ho];simp[Op.operands,Call.operands,hc,ha]));rw[hy]at h2;have h2:=bF h2;obtain⟨ad,hv⟩:∃ad,a.eval x= .slice ad 0 0:=by
  rcases hx with hx|hx
  ·rw[hx]at h1;generalize a.eval x=v at h1;cases h1 with
   |full hr=>cases hr with
    |cX=>exact⟨none,rfl⟩
    |rH a=>exact⟨_,rfl⟩
    |sl hn _ _ _ _ _ _ hs=>have:=hs.length;simp at this;rw[this]at hn;simp at hn;subst hn;exact⟨_,rfl⟩
  ·rw[hx]at h1;have:=aZ h1;generalize a.eval x=v at this;cases this;exact⟨none,rfl⟩
 obtain⟨v',w',g',k1,k2,k3,k4⟩:=sI (P:=P) (ty:=o.type) (xm:=xm) (n:=0) (cap:=0) (ad:=ad) (olds:=[]) (zo:=[]) hw hel (sJ hu) hz hs (by cases ad<;>simp[Builtin.firstCells,loadCells,loadCellsFrom]) .nil (by simp) (by simp) hj (by omega) (by simpa using hbound) (by omega);simp only[Nat.zero_add,List.nil_append]at k3 k4;exact⟨v',w',g',by rw[cT ho hc ha hts,hv,h2,k1];rfl,k2,k3,k4⟩
end
end
section
variable{P:Program}{st:AS}{o:Oper}
theorem adY{t e:TypeId}{sz bT n:Nat}{ps:Array (Nat×Operand)}{ys:List PC}(ho:o.op= .buildSlice t n ps)(ht:cU P t=some (e,sz,bT))(hsz:0<sz)(Qw:bt 0 ps.toList=true)(hn:ps.size=n)(oS:n*sz<=16777216)(hys:dV (ps.toList.map fun p=>(bE st.sl p.2).nm)=some ys)(hw':∀y∈ys,y.width=sz)(hnt:∀y∈ys,cw y=true):dA P st o (.view st.tb.nx 0 n sz (some n)) (st.tb.aS ⟨e,sz,ys.flatMap aU⟩):=bK fun w0 M0 F g a w hw h=>by
 have hr:=mJ (g:=g) (a:=a) (ps.toList.map (·.2)) ys (fun y hy=>bP (h y (by rw[ho];simpa[Op.operands]using hy))) (by rw[List.map_map];exact hys);have jm:=dc hr hw';have qz:(((ps.map fun(i,x)=>(i,a.eval x)).toList).map (·.2))=(ps.toList.map (·.2)).map a.eval:=by simp
 have Gz:bt 0 ((ps.map fun(i,x)=>(i,a.eval x)).toList)=true:=by
  have key:∀(l:List (Nat×Operand)) (k:Nat),bt k l=true->bt k (l.map fun p=>(p.1,a.eval p.2))=true:=by
   intro l
   induction l with
   |nil=>intro k _;rfl
   |cons p l ih=>intro k hk;simp only[bt,Bool.and_eq_true,List.map_cons]at hk⊢;exact⟨hk.1,ih _ hk.2⟩
  have:=key ps.toList 0 Qw;simpa using this
 have hrun:=j8 (P:=P) (w:=w) (n:=n) ht Gz (by simp[hn]) oS hsz (by rw[qz];exact jm);rw[qz]at hrun;generalize pF:(ps.toList.map (·.2)).map a.eval=us at hr jm hrun;have hlen:us.length=n:=by rw[<-pF];simp[hn]
 have LD:=o7 hr hnt;have iB:(cellsOf us).length=n*sz:=by rw[cO us jm,hlen]
 have hlc:(ys.flatMap aU).length=n*sz:=by rw[<-LD.length,iB]
 have hone:∀v∈cellsOf us,v.oneCell'=true:=by
  have key:∀{us:List Value} {ys:List PC},cJ g.M us ys->(∀y∈ys,cw y=true)->∀u∈cellsOf us,u.oneCell'=true:=by
   intro us ys hr
   induction us generalizing ys with
   |nil=>intro _ u hu;simp[cellsOf]at hu
   |cons v us ih=>
    intro hb u hu;cases hr with
    |cons hv hr=>
     rename_i y ys;simp only[cellsOf,List.flatMap_cons,iR]at hu;rcases hu with hu|hu
     ·have hby:=hb y (by simp);by_cases hp:y.plain=true
      ·obtain⟨e1,e2⟩:=iI hv hp;rw[e1]at hu;simp at hu;subst hu;exact e2
      ·cases y with
       |agg b xs=>
        cases b with
        |true=>cases hby
        |false=>cases hv with
         |agg hs h1=>exact h1 u (by simpa[Value.cells]using hu)
       |_=>simp[PC.plain]at hp
     ·exact ih hr (fun y hy=>hb y (by simp[hy])) u hu
  exact key hr hnt
 have hB:Below w.heap.size w (w.alloc (.cells (cellsOf us).toArray e)):=(Below.refl _ _).alloc (Nat.le_refl _) _;have gZ:n<=maxLen:=by
  have:n*1<=n*sz:=Nat.mul_le_mul_left _ hsz;unfold maxLen;omega
 have key:=hw.AG (o:=⟨e,sz,ys.flatMap aU⟩) (cur:=(cellsOf us).toArray) (c:=n) hB (heap_alloc_new w _) (by simp[iB]) gZ (by simp[hlc,iB]) (by simp only[hlc,<-iB,List.take_length];exact LD) (by simpa using hone);refine⟨.slice (some ⟨w.heap.size,0,none⟩) n n,_,_,?_,hw.mD _ _,key,?_⟩
 ·have GA:ps.map (fun(p:Nat×Operand)=>(p.1,a.eval p.2))=((ps.map fun(i,x)=>(i,a.eval x)).toList).toArray:=by apply Array.ext';simp
  simp only[execOp,ho,Sem.run_bind];have ze:(Instr.buildSlice t n (ps.map fun(x:Nat×Operand)=>(x.1,a.eval x.2))).run P w= .ok (.slice (some ⟨w.heap.size,0,none⟩) n n) (w.alloc (.cells (cellsOf us).toArray e)):=by rw[GA];exact hrun
  rw[ze];rfl
 ·have:=aX.view (g:=g.dw st.tb.nx w.heap.size n) (id:=st.tb.nx) (b:=w.heap.size) (c:=n) (o:=0) (n:=n) (s:=sz) (a:=some ⟨w.heap.size,0,none⟩) (by simp[G.dw]) (by omega) gZ (by
   rcases Nat.eq_zero_or_pos n with h0|h0
   ·exact .void h0 (.inr ⟨_,rfl⟩)
   ·exact .real 0 h0 rfl (fun _=>by simp)) (m:=some n) (fun k hk=>by injection hk)
  simpa using this
def vt(sz:Nat):Option (List AV)->Option (List AV)->Option (List AV)
 |some zs,some r=>if zs.length=sz then some (zs++r)else none
 |_,_=>none
def nc(sz:Nat):List AV->Option (List AV)
 |[]=>some []
 |x::l=>vt sz x.cR (nc sz l)
theorem zf{g:G}{sz:Nat}:∀{us:List Value} {xs zs:List AV},aJ g us xs->nc sz xs=some zs->aJ g (cellsOf us) zs/\(∀u∈us,u.cells.size=sz)/\∀v∈cellsOf us,v.oneCell'=true
 |[],[],zs,_,h=>by simp only[nc,Option.some.injEq]at h;subst h;exact⟨.nil,by simp,by simp[cellsOf]⟩
 |u::us,x::xs,zs,.cons hx hs,h=>by
  simp only[nc]at h;cases h1:x.cR with
  |none=>rw[h1]at h;simp[vt]at h
  |some z=>
   cases h2:nc sz xs with
   |none=>rw[h1,h2]at h;simp[vt]at h
   |some r=>
    rw[h1,h2]at h;simp only[vt]at h;split at h
    ·rename_i hl;injection h with h;subst h;obtain⟨a1,a2⟩:=oY hx h1;obtain⟨b1,b2,b3⟩:=zf hs h2;refine⟨by simpa[cellsOf]using a1.append b1,?_,?_⟩
     ·intro v hv;rcases List.mem_cons.1 hv with rfl|hv
      ·rw[<-hl,<-a1.length];simp
      ·exact b2 v hv
     ·intro v hv;simp only[cellsOf,List.flatMap_cons,iR]at hv;rcases hv with hv|hv
      ·exact a2 v hv
      ·exact b3 v hv
    ·cases h
theorem XJ{t e:TypeId}{sz bT n:Nat}{ps:Array (Nat×Operand)}{zs:List AV}(ho:o.op= .buildSlice t n ps)(ht:cU P t=some (e,sz,bT))(hsz:0<sz)(Qw:bt 0 ps.toList=true)(hn:ps.size=n)(oS:n*sz<=16777216)(hzs:nc sz (ps.toList.map fun p=>bE st.sl p.2)=some zs):dA P st o (.view st.tb.nx 0 n sz (some n)) (st.tb.aS ⟨e,sz,zs⟩):=bK fun w0 M0 F g a w hw h=>by
 have hr0:=tH (g:=g) (a:=a) (sl:=st.sl) (ps.toList.map (·.2)) (fun y hy=>h y (by rw[ho];simpa[Op.operands]using hy));have hm:(ps.toList.map (·.2)).map (bE st.sl)=ps.toList.map fun p=>bE st.sl p.2:=by simp
 rw[hm]at hr0;obtain⟨LD,jm,hone⟩:=zf hr0 hzs;have qz:(((ps.map fun(i,x)=>(i,a.eval x)).toList).map (·.2))=(ps.toList.map (·.2)).map a.eval:=by simp
 have Gz:bt 0 ((ps.map fun(i,x)=>(i,a.eval x)).toList)=true:=by
  have key:∀(l:List (Nat×Operand)) (k:Nat),bt k l=true->bt k (l.map fun p=>(p.1,a.eval p.2))=true:=by
   intro l
   induction l with
   |nil=>intro k _;rfl
   |cons p l ih=>intro k hk;simp only[bt,Bool.and_eq_true,List.map_cons]at hk⊢;exact⟨hk.1,ih _ hk.2⟩
  have:=key ps.toList 0 Qw;simpa using this
 have hrun:=j8 (P:=P) (w:=w) (n:=n) ht Gz (by simp[hn]) oS hsz (by rw[qz];exact jm);rw[qz]at hrun;generalize pF:(ps.toList.map (·.2)).map a.eval=us at LD jm hone hrun;have hlen:us.length=n:=by rw[<-pF];simp[hn]
 have iB:(cellsOf us).length=n*sz:=by rw[cO us jm,hlen]
 have hlc:zs.length=n*sz:=by rw[<-LD.length,iB]
 have hB:Below w.heap.size w (w.alloc (.cells (cellsOf us).toArray e)):=(Below.refl _ _).alloc (Nat.le_refl _) _;have gZ:n<=maxLen:=by
  have:n*1<=n*sz:=Nat.mul_le_mul_left _ hsz;unfold maxLen;omega
 have key:=hw.AG (o:=⟨e,sz,zs⟩) (cur:=(cellsOf us).toArray) (c:=n) hB (heap_alloc_new w _) (by simp[iB]) gZ (by simp[hlc,iB]) (by simp only[hlc,<-iB,List.take_length];exact LD) (by simpa using hone);refine⟨.slice (some ⟨w.heap.size,0,none⟩) n n,_,_,?_,hw.mD _ _,key,?_⟩
 ·have GA:ps.map (fun(p:Nat×Operand)=>(p.1,a.eval p.2))=((ps.map fun(i,x)=>(i,a.eval x)).toList).toArray:=by apply Array.ext';simp
  simp only[execOp,ho,Sem.run_bind];have ze:(Instr.buildSlice t n (ps.map fun(x:Nat×Operand)=>(x.1,a.eval x.2))).run P w= .ok (.slice (some ⟨w.heap.size,0,none⟩) n n) (w.alloc (.cells (cellsOf us).toArray e)):=by rw[GA];exact hrun
  rw[ze];rfl
 ·have:=aX.view (g:=g.dw st.tb.nx w.heap.size n) (id:=st.tb.nx) (b:=w.heap.size) (c:=n) (o:=0) (n:=n) (s:=sz) (a:=some ⟨w.heap.size,0,none⟩) (by simp[G.dw]) (by omega) gZ (by
   rcases Nat.eq_zero_or_pos n with h0|h0
   ·exact .void h0 (.inr ⟨_,rfl⟩)
   ·exact .real 0 h0 rfl (fun _=>by simp)) (m:=some n) (fun k hk=>by injection hk)
  simpa using this
end
section
variable{P:Program}{st:AS}{o:Oper}
theorem tn{M:Mem}:∀{vs:List Value},(∀v∈vs,v.oneCell'=true)->cellsOf vs=vs
 |[],_=>rfl
 |v::vs,h=>by
  have h1:v.cells=#[v]:=by have:=h v (by simp);cases v<;>simp_all [Value.cells,Value.oneCell']
  have h2:=tn (M:=M) (vs:=vs) (fun u hu=>h u (by simp[hu]));simp only[cellsOf,List.flatMap_cons]at h2⊢;rw[h2,h1];rfl
theorem Rb{t:TypeId}{x:Operand}{id m:Nat}{ag:Bool}{ob:Ob}{zs:List PC}(ho:o.op= .slice t x none none none)(hx:bE st.sl x= .obj id 0)(hl:lk id st.tb.bx=some ob)(hA:ic P t=some (m,1,ag))(hxs:ob.xs=zs.map .p)(hsz:ob.sz=m)(hlen:zs.length=m)(hm:0<m)(hmm:m<=maxLen):dA P st o (.full zs) ⟨del id st.tb.bx,st.tb.rw,st.tb.nx+1⟩:=bK fun w0 M0 F g a w hw h=>by
 have e1:=h x (by simp[ho,Op.operands]);rw[hx]at e1;generalize hv:a.eval x=v at e1;cases e1 with
 |obj e=>
  rename_i b c;have hne:ob.xs≠[]:=fun h0=>by rw[hxs]at h0;have h1:=congrArg List.length h0;rw[List.length_map,List.length_nil]at h1;omega
  have g_:=(hw.boxes id ob hl).pos e hne;obtain⟨N,hM,hS,hR⟩:=hw.xC (n:=1) (ys:=[.agg false zs]) hl e g_ (by rw[hsz];exact hm) g_ (by rw[hxs,hsz,Nat.one_mul];simp[hlen]) (by rw[hxs,hsz,<-hlen,Nat.one_mul];simp[aU,fY]) rfl (by simp[PC.width,hlen,hsz]) (by simp[cw]);have hS':=hS.qf st.tb.nx;have htb:(((st.tb.cD id).bU ob.el ob.sz).qf st.tb.nx).rw=del st.tb.nx st.tb.rw:=by simp[Tb.qf,Tb.bU,Tb.cD,del]
  have hS2:aQ w0 M0 F ⟨del id st.tb.bx,st.tb.rw,st.tb.nx+1⟩ ((g.with N).cY st.tb.nx (.slice (some ⟨b,0,none⟩) 1 c)) w:=by
   refine hS'.sub (fun i p e=>e) (fun i r e=>?_) (Nat.le_refl _);rw[htb,cu];rw[if_neg]
   ·exact e
   ·intro hi;obtain⟨el,sz⟩:=r;obtain⟨v,Q9,_⟩:=hw.rows i el sz e;have:=hw.oc Q9;omega
  have Mj:(g.with N).le ((g.with N).cY st.tb.nx (.slice (some ⟨b,0,none⟩) 1 c)):=⟨Mem.le_refl _,fun _ _ e=>e,fun i p e=>by have:=hw.oc e;simp only[G.cY];rw[if_neg (by omega)];exact e⟩;refine⟨.slice (some ⟨b,0,none⟩) m m,w,_,?_,(G.oN hM).trans Mj,hS2,?_⟩
  ·unfold ic at hA;split at hA
   ·rename_i m' el hU;split at hA
    ·rename_i s' a' hs' Jl;injection hA with hA;obtain⟨rfl,rfl,rfl⟩:=by simpa using hA
     simp[execOp,ho,hv,Instr.sliceAt,Instr.sliceBounds,Instr.sureAddr,run_underlying hU,run_sizeOf hs',Addr.add]
    ·cases hA
   ·cases hA
  ·refine .full ?_;cases hR with
   |sl hn hc hmx Rc hu h1 hat hs=>
    rename_i us;cases hs with
    |cons hr hs=>
     cases hs;cases hr with
     |agg pY hone=>
      rename_i vs;have hcell:cellsOf [Value.agg vs.toArray]=vs:=by simp[cellsOf,Value.cells]
      rw[hcell]at hat;have Jm:=pY.length;exact .sl (us:=vs) (sz:=1) (by omega) (Nat.le_refl _) hmm (by decide) (fun u hu=>by have:=hone u hu;cases u<;>simp_all [Value.cells,Value.oneCell']) (by rw[tn (M:=N) hone];exact hone) (by rw[tn (M:=N) hone];exact hat) pY
end
section
variable{P:Program}{st:AS}{o:Oper}{w0:World}{M0:Mem}{F:Nat->Prop}{tb:Tb}{g:G}{w w':World}
theorem aQ.Wc(h:aQ w0 M0 F tb g w){id b c c':Nat}{ob jh:Ob}(hl:lk id tb.bx=some ob)(he:g.ob id=some (b,c))(hel:jh.el=ob.el)(hsz:jh.sz=ob.sz){n:Nat}(hx:jh.xs=ob.xs.take n)(hcc:c'<=c)(hc0:c'=0->n=0):aQ w0 M0 F ((tb.cD id).aS jh) (g.dw tb.nx b c') w:=by
 have hle:=h.mD b c';have hid:id<tb.nx:=h.AF he;refine⟨h.holds,h.keep,h.old,h.Dm,fun i p e=>?_,fun i el sz e=>?_,fun i j p q b1 c1 b2 c2 ei ej hij e1 e2 p1 p2=>?_,h.ia,fun i j p r b1 c1 v ei ej e1 e2 p1=>?_,fun i hi=>?_⟩
 ·simp only[Tb.aS,Tb.cD,a_]at e;split at e
  ·rename_i hi;subst hi;injection e with e;subst e;refine⟨b,c',by simp[G.dw],fun hc=>?_,fun hc=>?_⟩
   ·obtain⟨cur,f2,f3,f4,f5,f6,f7,f8,f9⟩:=(h.boxes id ob hl).real he (by omega);have hlen:jh.xs.length<=ob.xs.length:=by rw[hx,List.length_take];omega
    have hsub:cur.toList.take jh.xs.length=(cur.toList.take ob.xs.length).take jh.xs.length:=by rw[List.take_take,Nat.min_eq_left hlen]
    have hxs:jh.xs=ob.xs.take jh.xs.length:=by rw[hx,List.length_take,<-List.take_take,List.take_length]
    refine⟨cur,f2,f3,by rw[hel];exact f4,by rw[hsz];exact Nat.le_trans (Nat.mul_le_mul_right _ hcc) f5,by omega,by omega,?_,f9⟩
    ·rw[hsub];have:=(f8.mono hle).take jh.xs.length;rw[<-hxs]at this;exact this
   ·rw[hx,hc0 hc];simp
  ·rename_i hi;rw[cu]at e;split at e
   ·cases e
   ·obtain⟨b1,c1,f1,fr,f0⟩:=h.boxes i p e;refine⟨b1,c1,hle.ob _ _ f1,fun hp=>?_,f0⟩;obtain⟨qg,f2,f3,f4,f5,f6,f7,f8,f9⟩:=fr hp;exact⟨qg,f2,f3,f4,f5,f6,f7,f8.mono hle,f9⟩
 ·obtain⟨v,f1,f2⟩:=h.rows i el sz e;exact⟨v,f1,f2⟩
 ·simp only[Tb.aS,Tb.cD,a_,cu]at ei ej;simp only[G.dw]at e1 e2;split at ei
  ·rename_i hi;rw[if_pos hi]at e1;injection e1 with e1;injection e1 with e1 Lw;subst e1;subst Lw;split at ej
   ·rename_i hj;omega
   ·rename_i hj;rw[if_neg hj]at e2;split at ej
    ·cases ej
    ·rename_i hjd;exact h.f_ id j ob q b c b2 c2 hl ej (fun hh=>hjd hh.symm) he e2 (by omega) p2
  ·rename_i hi;rw[if_neg hi]at e1;split at ei
   ·cases ei
   ·rename_i Wd;split at ej
    ·rename_i hj;rw[if_pos hj]at e2;injection e2 with e2;injection e2 with e2 e2';subst e2;subst e2';exact h.f_ i id p ob b1 c1 b c ei hl Wd e1 he p1 (by omega)
    ·rename_i hj;rw[if_neg hj]at e2;split at ej
     ·cases ej
     ·exact h.f_ i j p q b1 c1 b2 c2 ei ej hij e1 e2 p1 p2
 ·simp only[Tb.aS,Tb.cD,a_,cu]at ei;simp only[G.dw]at e1;split at ei
  ·rename_i hi;rw[if_pos hi]at e1;injection e1 with e1;injection e1 with e1 Lw;subst e1;subst Lw;exact h.fj id j ob r b c v hl ej he e2 (by omega)
  ·rename_i hi;rw[if_neg hi]at e1;split at ei
   ·cases ei
   ·exact h.fj i j p r b1 c1 v ei ej e1 e2 p1
 ·simp only[Tb.aS,Tb.cD]at hi;have:=h.fresh i (by omega);simp only[G.dw];rw[if_neg (by omega)];exact this
theorem Wg{t:TypeId}{x:Operand}{hi mx:Operand}{id n s:Nat}{m:Option Nat}{ob:Ob}{k1 k2:IntKind}(ho:o.op= .slice t x none (some hi) (some mx))(hx:bE st.sl x= .view id 0 n s m)(hsz:aH P t=some s)(hl:lk id st.tb.bx=some ob)(hos:ob.sz=s)(hhi:(bE st.sl hi).nm= .p (.sc (.int k1 n)))(hmx:(bE st.sl mx).nm= .p (.sc (.int k2 n))):dA P st o (.view st.tb.nx 0 n s (some n)) ((st.tb.cD id).aS ⟨ob.el,ob.sz,ob.xs.take (n*s)⟩):=bK fun w0 M0 F g a w hw hr=>by
 have e1:=hr x (by simp[ho,Op.operands]);rw[hx]at e1;have e2:=bP (hr hi (by simp[ho,Op.operands]));rw[hhi]at e2;have e3:=bP (hr mx (by simp[ho,Op.operands]));rw[hmx]at e3;have e2:=bF e2;have e3:=bF e3;obtain⟨el,hU,hs⟩:=ie hsz;generalize hv:a.eval x=v at e1;cases e1 with
 |view e h4 h5 h6 hm=>
  rename_i b cc ad;have hb:=qh (P:=P) (n:=n) (cap:=cc) (l:=0) (h:=n) (m:=n) (lo:=none) (k1:=k1) (k2:=k2) (.inl ⟨rfl,rfl⟩) (by omega) (by omega) (by omega) w;have h1:=hw.Wc (id:=id) (c':=n) (jh:=⟨ob.el,ob.sz,ob.xs.take (n*s)⟩) hl e rfl rfl rfl (by omega) (fun h=>by subst h;simp);refine⟨.slice ad n n,w,g.dw st.tb.nx b n,?_,hw.mD _ _,h1,?_⟩
  ·have hd:Option.map (fun x:Addr=>x.add 0) ad=ad:=by cases ad with
    |none=>rfl
    |some ad=>simp[Addr.add]
   simp[execOp,ho,hv,e2,e3,Instr.sliceAt,Instr.slice,run_underlying hU,hb,run_sizeOf hs,hd]
  ·have uV:yh ad b n 0 s:=by
    cases h6 with
    |void h0 uV=>exact .void (by omega) uV
    |real off g_ had h5=>
     subst had;rcases Nat.eq_zero_or_pos n with h0|h0
     ·subst h0;exact .void rfl (.inr ⟨_,rfl⟩)
     ·exact .real off h0 rfl (fun _=>h5 (.inl g_))
   have:=aX.view (g:=g.dw st.tb.nx b n) (id:=st.tb.nx) (b:=b) (c:=n) (o:=0) (n:=n) (s:=s) (a:=ad) (m:=some n) (by simp[G.dw]) (by omega) (by omega) uV (fun k hk=>by injection hk);simpa using this
end
def m8(w:World):Mem:=fun b o=>w.cell? ⟨b,o,none⟩
theorem ua{w:World}{M:Mem}(h:gB w M):M.le (m8 w):=fun b o v e=>h b o v e
theorem wH{w:World}{M:Mem}(h:gB w M):gB w (m8 w):=⟨fun _ _ _ h=>h,h.g.mono (ua h)⟩
def gY{α β:Type}(p:α->β->Prop):List α->List β->Prop
 |[],[]=>True
 |x::l,y::m=>p x y/\gY p l m
 |_,_=>False
def cQ(bx:List (Nat×Ob)):Nat->AV->PC->Prop
 |0,_,_=>False
 |k+1,.view id o n s _,.sl ys=>∃ob,lk id bx=some ob/\0<s/\ys.length=n/\(o+n)*s<=ob.xs.length/\(ob.xs.drop (o*s)).take (n*s)=ys.flatMap aU/\(∀y∈ys,y.width=s)/\(∀y∈ys,cw y=true)
 |k+1,.obj id off,.ref (.agg false ys)=>∃ob,lk id bx=some ob/\off+ys.length<=ob.xs.length/\gY (cQ bx k) ((ob.xs.drop off).take ys.length) ys
 |k+1,.obj id off,.ref y=>∃ob z,lk id bx=some ob/\ob.xs[off]?=some z/\y.plain=true/\cQ bx k z y
 |k+1,.agg t xs,.agg t' ys=>t=t'/\gY (cQ bx k) xs ys
 |k+1,.lJ f xs,.fn f' ys=>f=f'/\gY (cQ bx k) xs ys
 |k+1,x,y=>∃p,x.pc=some p/\(y=p\/y=p.wk)
section
variable{P:Program}{st:AS}{o:Oper}{w0:World}{M0:Mem}{F:Nat->Prop}{tb:Tb}{g:G}{w w':World}
theorem kN{M:Mem}{p:AV->PC->Prop}(hp:∀v x y,aX g v x->p x y->gO M v y):∀{vs:List Value} {xs:List AV} {ys:List PC},aJ g vs xs->gY p xs ys->cJ M vs ys
 |_,[],[],.nil,_=> .nil
 |_,_::_,_::_,.cons h hs,e=> .cons (hp _ _ _ h e.1) (kN hp hs e.2)
 |_,[],_::_,_,e=>e.elim
 |_,_::_,[],_,e=>e.elim
theorem vo(hw:aQ w0 M0 F tb g w){N:Mem}(hM:g.M.le N)(hN:∀id ob b c,lk id tb.bx=some ob->g.ob id=some (b,c)->0<c->∀o v,w.cell? ⟨b,o,none⟩=some v->N b o=some v):∀(k:Nat) (v:Value) (x:AV) (y:PC),aX g v x->cQ tb.bx k x y->gO N v y:=by
 have last:∀(v:Value) (x:AV) (y:PC),aX g v x->(∃p,x.pc=some p/\(y=p\/y=p.wk))->gO N v y:=fun v x y h e=>by
  obtain⟨p,e,rfl|rfl⟩:=e
  ·exact(oX h _ e).mono hM
  ·exact(FW (oX h p e)).mono hM
 intro k
 induction k with
 |zero=>intro v x y _ h;exact h.elim
 |succ k ih=>
  intro v x y hv h;unfold cQ at h;split at h
  ·cases h
  ·rename_i kk id of n s m ys hk;obtain⟨ob,hl,hs,hn,hle,hc,hwd,hnt⟩:=h;cases hv with
   |view e h3 h4 h5 hm=>
    rename_i b cc ad;rcases Nat.eq_zero_or_pos n with h0|h0
    ·have:ys=[]:=mB (by omega);subst this;subst h0;cases ad with
     |none=>
      cases h5 with
      |real _ _ ha _=>cases ha
      |void hz _=>
       subst hz;have:0-of=0:=by omega
       rw[this];exact .cX
     |some ad=>
      cases h5 with
      |real off _ ha _=>
       injection ha with ha;subst ha;exact .sl (us:=[]) rfl (by omega) (by omega) hs (by simp) (by simp[cellsOf]) (fun j v e=>by simp[cellsOf]at e) .nil
      |void hz0 _=>
       subst hz0;have:0-of=0:=by omega
       rw[this];exact .rH ad
    ·cases h5 with
     |void hz _=>omega
     |real off g_ had h5=>
     subst had;obtain rfl:=h5 (.inl (by omega));obtain⟨cur,f2,f3,⟨tt,fz,f4,fo⟩,f5,f6,f7,f8,f9⟩:=(hw.boxes id ob hl).real e g_;have e3:((cur.toList.take ob.xs.length).drop (of*s)).take (n*s)=(cur.toList.drop (of*s)).take (n*s):=by
      rw[Nat.add_mul]at hle;rw[List.drop_take,List.take_take,Nat.min_eq_left (by omega)]
     have LD:aJ g ((cur.toList.drop (of*s)).take (n*s)) (ys.flatMap aU):=by
      have:=(f8.drop (of*s)).take (n*s);rw[e3,hc]at this;exact this
     have hone:∀u∈(cur.toList.drop (of*s)).take (n*s),u.oneCell'=true:=fun u hu=>f9 u (by
      rw[<-e3]at hu;exact jH (List.mem_of_mem_drop (jH hu)))
     obtain⟨us,pF,yY⟩:=sF ys LD hone hnt;have UQ:=yY.length;refine .sl (us:=us) (by omega) (by omega) (by omega) hs (dc yY hwd) (fun v hv=>hone v (by rw[<-pF];exact hv)) ?_ (yY.mono hM);rw[pF];intro j u hj;rw[List.getElem?_take]at hj;split at hj
     ·rw[List.getElem?_drop]at hj;refine hN id ob b cc hl e g_ _ _ ?_;unfold World.cell?;rw[f4];simpa using hj
     ·cases hj
  ·rename_i kk id off ys hk;obtain⟨ob,hl,hle,hall⟩:=h;cases hv with
   |obj e=>
    rename_i b cc;by_cases hne:ob.xs=[]
    ·rw[hne]at hle;simp only[List.length_nil,Nat.le_zero]at hle;have:ys=[]:=mB (by omega);subst this;refine .ref (u:= .agg #[]) (fun j v e=>by simp[Value.cells]at e) ?_;exact gO.agg (vs:=[]) .nil (by simp)
    ·have g_:=(hw.boxes id ob hl).pos e hne;obtain⟨cur,f2,f3,⟨tt,fz,f4,fo⟩,f5,f6,f7,f8,f9⟩:=(hw.boxes id ob hl).real e g_;have e3:((cur.toList.take ob.xs.length).drop off).take ys.length=(cur.toList.drop off).take ys.length:=by
      rw[List.drop_take,List.take_take,Nat.min_eq_left (by omega)]
     have LD:aJ g ((cur.toList.drop off).take ys.length) ((ob.xs.drop off).take ys.length):=by
      have:=(f8.drop off).take ys.length;rw[e3]at this;exact this
     refine .ref (u:= .agg ((cur.toList.drop off).take ys.length).toArray) (fun j u hj=>?_) (gO.agg (kN (fun v x y h1 h2=>ih v x y h1 (by cases hk;exact h2)) LD hall) (fun u hu=>f9 u ?_))
     ·simp only[Value.cells]at hj;rw[List.getElem?_take]at hj;split at hj
      ·rw[List.getElem?_drop]at hj;refine hN id ob b cc hl e g_ _ _ ?_;unfold World.cell?;rw[f4];simpa using hj
      ·cases hj
     ·rw[<-e3]at hu;exact jH (List.mem_of_mem_drop (jH hu))
  ·rename_i kk id off y _ hk;obtain⟨ob,z,hl,hz,hp,hb⟩:=h;cases hv with
   |obj e=>
    rename_i b cc;have hne:ob.xs≠[]:=fun hn=>by rw[hn]at hz;simp at hz
    have g_:=(hw.boxes id ob hl).pos e hne;obtain⟨cur,f2,f3,⟨tt,fz,f4,fo⟩,f5,f6,f7,f8,f9⟩:=(hw.boxes id ob hl).real e g_;obtain⟨u,hu,hr⟩:=f8.get hz;have hy:gO N u y:=ih u z y hr (by cases hk;exact hb);refine .ref (u:=u) (fun j u' hj=>?_) hy;rw[(iI hy hp).1]at hj;cases j with
    |succ j=>simp at hj
    |zero=>
     simp at hj;subst hj;refine hN id ob b cc hl e g_ _ _ ?_;rw[List.getElem?_take]at hu;split at hu
     ·unfold World.cell?;rw[f4];simpa using hu
     ·cases hu
  ·rename_i kk t xs t' ys hk;obtain⟨rfl,hall⟩:=h;cases hv with
   |agg hs h1=>exact .agg (kN (fun v x y h1 h2=>ih v x y h1 (by cases hk;exact h2)) hs hall) h1
   |qi hs=>exact .qi (kN (fun v x y h1 h2=>ih v x y h1 (by cases hk;exact h2)) hs hall)
  ·rename_i kk f xs f' ys hk;obtain⟨rfl,hall⟩:=h;cases hv with
   |lJ hs=>exact .fn (kN (fun v x y h1 h2=>ih v x y h1 (by cases hk;exact h2)) hs hall)
  ·exact last v _ _ hv h
theorem N9(hw:aQ w0 M0 F tb g w)(k:Nat)(v:Value)(x:AV)(y:PC)(hv:aX g v x)(h:cQ tb.bx k x y):gO (m8 w) v y:=vo hw (ua hw.holds) (fun _ _ _ _ _ _ _ _ _ h=>h) k v x y hv h
def PC.flat:PC->Bool
 | .sc _=>true
 | .nil=>true
 | .agg _ xs=>Ii xs
 |_=>false
where Ii:List PC->Bool
 |[]=>true
 |x::l=>x.flat&&Ii l
mutual
theorem D8{M N:Mem}:∀{v:Value} (x:PC),gO M v x->x.flat=true->gO N v x
 |v,.sc u,h,_=>by cases h with|sc _ h=>exact .sc _ h
 |v,.nil,h,_=>by cases h;exact .nil
 |v,.agg t xs,h,hf=>by
  simp only[PC.flat]at hf;cases h with
  |agg hs h1=>exact .agg (vp xs hs hf) h1
  |qi hs=>exact .qi (vp xs hs hf)
 |v,.sl xs,_,hf=>by simp[PC.flat]at hf
 |v,.ref x,_,hf=>by simp[PC.flat]at hf
 |v,.fn f xs,_,hf=>by simp[PC.flat]at hf
theorem vp{M N:Mem}:∀{vs:List Value} (xs:List PC),cJ M vs xs->PC.flat.Ii xs=true->cJ N vs xs
 |_,[],h,_=>by cases h;exact .nil
 |_,x::xs,h,hf=>by
  simp only[PC.flat.Ii,Bool.and_eq_true]at hf;cases h with|cons h1 hs=>exact .cons (D8 x h1 hf.1) (vp xs hs hf.2)
end
def N_(P:Program)(gf:FuncId)(caps:List PC)(args:List AV)(tb:Tb)(k:AV->Tb->Prop):Prop:=∃ys r n,gY (cQ tb.bx n) args ys/\aq P gf (ys++caps) r/\r.flat=true/\k (.p r) tb
theorem SH{n:Nat}{c:Call}{f:Operand}{gf:FuncId}{caps ys:List PC}{r:PC}(ho:o.op= .call c)(hc:c.callee= .value f)(hf:(bE st.sl f).nm= .p (.fn (.func gf) caps))(hx:gY (cQ st.tb.bx n) (c.args.toList.map (bE st.sl)) ys)(hp:aq P gf (ys++caps) r)(hr:r.flat=true):dA P st o (.p r) st.tb:=by
 intro w0 M0 F g a w hw hop K Q hK;have qj:∀y,y∈o.op.operands->aX g (a.eval y) (bE st.sl y):=fun y hy=>iZ y fun t e=>hop t (e▸hy);have h1:=bP (qj f (by rw[ho];simp[Op.operands,Call.operands,hc]));rw[hf]at h1;have gQ:=aZ h1;generalize hv:a.eval f=v at gQ;cases gQ with
 |fn og=>
  rename_i cv;have hargs:=jz (g:=g) (a:=a) (sl:=st.sl) c.args.toList (fun y hy=>qj y (by rw[ho];simp[Op.operands,Call.operands,hc];exact Or.inr (by simpa using hy)));have hall:=(kN (fun v x y h1 h2=>N9 hw n v x y h1 h2) hargs hx).append (og.mono (ua hw.holds));have hrun:(execOp a.eval o).run P w= .ok (.enter gf ((c.args.toList.map a.eval)++cv).toArray) w:=by
   simp[execOp,ho,resolve,hc,hv,Deferred.ofValue,invoke,gj hp.1]
  unfold Oper.wp;rw[hrun];refine(hp.2 (m8 w) w _ (wH hw.holds) hall).mono ?_;rintro e' w' ⟨v',N,rfl,hr',hH,hM,hO,hB⟩;have hH':gB w' g.M:=⟨fun b o v e=>by
   have hlt:=hw.holds.lt e;rw[hB.cell (p:=⟨b,o,none⟩) hlt];exact hw.holds b o v e,hw.holds.g⟩
  have hw':=hw.later (Mem.le_refl _) hH' (fun _ _=>rfl) hB;exact hK v' w' g (G.le_refl g) hw' (.p (D8 _ hr' hr))
theorem Ij{h1:Option Addr->Nat->Nat->Option Addr->Nat->Nat->Sem Value}{h2:Array Value->Sem Value}{a b:Option Addr}{la ca lb cb:Nat}:Extern.SlicesOverlaps.overlaps.match_4 (fun _=>Sem Value) #[.slice a la ca,.slice b lb cb] h1 h2=h1 a la ca b lb cb:=rfl
theorem Ik{P:Program}(w:World)(tS tR e:TypeId)(ht:P.underlying tS=some (.slice e))(size:Nat)(hz:∀w,(Go.sizeOf e).run P w= .ok size w)(a b:Addr)(la ca lb cb:Nat)(hne:a.block≠b.block)(tA tB:TypeId)(kA kB:Nat)(UR:w.shape? a.block=some (tA,kA))(hsb:w.shape? b.block=some (tB,kB))(hkA:kA≠0)(WC:kB≠0)(hf:(w.frozen? a=false/\w.frozen? {block:=a.block,off:=kA}=false)\/(w.frozen? b=false/\w.frozen? {block:=b.block,off:=kB}=false)):(Extern.SlicesOverlaps.overlaps #[tS,tS] #[tR] #[.slice (some a) la ca,.slice (some b) lb cb]).run P w= .ok (.bool false) w:=by
 have hnb:(a.block !=b.block)=true:=by simpa using hne
 have adI:(a.block==b.block)=false:=by simpa using hne
 delta Extern.SlicesOverlaps.overlaps
 rw[Ij];by_cases h0:la=0\/lb=0\/size=0
 ·simp[run_underlying ht,hz,h0]
 ·cases kA with
  |zero=>exact absurd rfl hkA
  |succ kA=>
  cases kB with
  |zero=>exact absurd rfl WC
  |succ kB=>
   rcases hf with⟨h1,h2⟩|⟨h1,h2⟩
   ·simp[run_underlying ht,hz,h0,hnb,adI,frozen,noView,viewAt,mayBeOne,stringish,shape,Sem.run,UR,hsb,h1,h2]
   ·simp[run_underlying ht,hz,h0,hnb,adI,frozen,noView,viewAt,mayBeOne,stringish,shape,Sem.run,UR,hsb,h1,h2]
    all_goals (cases w.frozen? a<;>simp[h1,h2])
    all_goals (cases w.frozen? {block:=a.block,off:=kA+1}<;>simp[h1,h2])
theorem N'(w:World)(tS tR e:TypeId)(ht:P.underlying tS=some (.slice e))(size:Nat)(hz:∀w,(Go.sizeOf e).run P w= .ok size w)(a b:Option Addr)(la ca lb cb:Nat)(h:a=none\/b=none\/la=0\/lb=0):(Extern.SlicesOverlaps.overlaps #[tS,tS] #[tR] #[.slice a la ca,.slice b lb cb]).run P w= .ok (.bool false) w:=by
 delta Extern.SlicesOverlaps.overlaps
 rw[Ij];cases a with
 |none=>simp[run_underlying ht,hz]
 |some a=>
  cases b with
  |none=>simp[run_underlying ht,hz]
  |some b=>
   have h0:la=0\/lb=0\/size=0:=by
    rcases h with h|h|h|h
    ·cases h
    ·cases h
    ·exact .inl h
    ·exact .inr (.inl h)
   simp[run_underlying ht,hz,h0]
def J_(P:Program)(gf:FuncId):Prop:=∃fn tS tR e,P.funcs[gf]?=some fn/\(fn.name=="runtime.NumGoroutine")=false/\fn.body.isNone=true/\Extern.findNext fn=none/\Extern.find fn=some (Extern.SlicesOverlaps.overlaps #[tS,tS] #[tR])/\P.underlying tS=some (.slice e)/\(aO P e).isSome=true
def tg:AV->Prop
 | .p (.sl _)=>True
 | .p .nil=>True
 |_=>False
def ai4(P:Program)(gf:FuncId)(args:List AV)(tb:Tb)(k:AV->Tb->Prop):Prop:=J_ P gf/\k (.p (.bool false)) tb/\∃id o n s m y ob,(args=[.view id o n s m,y]\/args=[y,.view id o n s m])/\lk id tb.bx=some ob/\ob.sz=s/\0<s/\ob.el<1000000/\tg y.nm
theorem SI{M:Mem}{w:World}{v:Value}{y:AV}(hH:gB w M)(hv:∀x,y= .p x->gO M v x)(h:tg y):∃ad n c,v= .slice ad n c/\∀a,ad=some a->0<n->(∃t k,w.shape? a.block=some (t,k)/\k≠0)/\∃o u,M a.block o=some u:=by
 unfold tg at h;split at h
 ·rename_i xs;have:=hv _ rfl;cases this with
  |cX=>exact⟨none,0,0,rfl,fun a e=>by cases e⟩
  |rH a=>exact⟨some a,0,0,rfl,fun _ _ h=>by omega⟩
  |sl hn hc hm hsz hu h1 hat hr=>
   rename_i b off n cap sz us;refine⟨_,_,_,rfl,fun a e hn0=>?_⟩;injection e with e;subst e;have iB:=cO us hu;have hpos:0<(cellsOf us).length:=by rw[iB];exact Nat.mul_pos (by omega) hsz
   have hM:=hat 0 ((cellsOf us)[0]) (kq hpos);refine⟨?_,_,_,hM⟩;have hc:=hH _ _ _ hM;unfold World.cell? at hc;simp only[Option.isSome_none,Bool.false_eq_true,if_false]at hc;split at hc
   ·rename_i cs t f hb;refine⟨t,cs.size,by unfold World.shape?;simp only[hb],?_⟩;intro h0;rw[Array.getElem?_eq_none (by omega)]at hc;cases hc
   ·cases hc
 ·have:=hv _ rfl;cases this;exact⟨none,0,0,rfl,fun a e=>by cases e⟩
 ·exact h.elim
theorem adJ{c:Call}{f:Operand}{gf:FuncId}(ho:o.op= .call c)(hc:c.callee= .value f)(hf:(bE st.sl f).nm= .p (.fn (.func gf) []))(h:J_ P gf){id of n s:Nat}{m:Option Nat}{y:AV}{ob:Ob}(ha:c.args.toList.map (bE st.sl)=[.view id of n s m,y]\/c.args.toList.map (bE st.sl)=[y,.view id of n s m])(hl:lk id st.tb.bx=some ob)(hsz:ob.sz=s)(hs:0<s)(D9:ob.el<frM)(hy:tg y.nm):dA P st o (.p (.bool false)) st.tb:=bK fun w0 M0 F g a w hw hop=>by
 have h1:=bP (hop f (by rw[ho];simp[Op.operands,Call.operands,hc]));rw[hf]at h1;have gQ:=aZ h1;generalize hv:a.eval f=v at gQ;cases gQ with
 |fn og=>
  cases og;obtain⟨fn,tS,tR,e,f1,f2,f3,f4,f5,f6,f7⟩:=h;obtain⟨sz,Rc⟩:=Option.isSome_iff_exists.1 f7;have hargs:=jz (g:=g) (a:=a) (sl:=st.sl) c.args.toList (fun y hy=>hop y (by rw[ho];simp[Op.operands,Call.operands,hc];exact Or.inr (by simpa using hy)));have core:∀(u v:Value),aX g u (.view id of n s m)->aX g v y->(Extern.SlicesOverlaps.overlaps #[tS,tS] #[tR] #[u,v]).run P w= .ok (.bool false) w/\(Extern.SlicesOverlaps.overlaps #[tS,tS] #[tR] #[v,u]).run P w= .ok (.bool false) w:=by
   intro u v hu hv;obtain⟨ad,k,cap,rfl,ai5⟩:=SI (w:=w) (M:=g.M) (y:=y.nm) hw.holds (fun x e=>by have:=bP hv;rw[e]at this;exact aZ this) hy;cases hu with
   |view e3 h3 h4 h5 hm=>
    rename_i b cc au;have US:=fun(a b:Option Addr) (la ca lb cb:Nat) (h:a=none\/b=none\/la=0\/lb=0)=>N' (P:=P) w tS tR e f6 sz (fun w=>run_sizeOf Rc w) a b la ca lb cb h;cases au with
    |none=>exact⟨US _ _ _ _ _ _ (.inl rfl),US _ _ _ _ _ _ (.inr (.inl rfl))⟩
    |some au=>
    cases ad with
    |none=>exact⟨US _ _ _ _ _ _ (.inr (.inl rfl)),US _ _ _ _ _ _ (.inl rfl)⟩
    |some ad=>
    by_cases hn0:n=0
    ·exact⟨US _ _ _ _ _ _ (.inr (.inr (.inl hn0))),US _ _ _ _ _ _ (.inr (.inr (.inr hn0)))⟩
    by_cases FG:k=0
    ·exact⟨US _ _ _ _ _ _ (.inr (.inr (.inr FG))),US _ _ _ _ _ _ (.inr (.inr (.inl FG)))⟩
    obtain⟨⟨tB,kB,q1,q2⟩,o',u',q3⟩:=ai5 ad rfl (by omega);cases h5 with
    |void hz _=>omega
    |real off g_ had h5=>
    injection had with had;subst had;obtain⟨cur,p2,p3,⟨tt,fz,p4,fo⟩,p5,p6,p7,p8,p9⟩:=(hw.boxes id ob hl).real e3 g_;obtain⟨rfl,rfl⟩:=fo.low D9;have hne:b≠ad.block:=fun hh=>by rw[<-hh,p3]at q3;cases q3
    have Oa:w.shape? b=some (ob.el,cur.size):=by unfold World.shape?;rw[p4]
    have hk:cur.size≠0:=Nat.ne_of_gt (Nat.lt_of_lt_of_le (by rw[hsz];exact Nat.mul_pos g_ hs) p5);have hfz:∀o,w.frozen? ⟨b,o,none⟩=false:=fun o=>by unfold World.frozen?;rw[p4];simp
    exact⟨Ik w tS tR e f6 sz (fun w=>run_sizeOf Rc w) ⟨b,off,none⟩ ad _ _ _ _ hne _ _ _ _ Oa q1 hk q2 (.inl ⟨hfz _,hfz _⟩),Ik w tS tR e f6 sz (fun w=>run_sizeOf Rc w) ad ⟨b,off,none⟩ _ _ _ _ (Ne.symm hne) _ _ _ _ q1 Oa q2 hk (.inr ⟨hfz _,hfz _⟩)⟩
  refine⟨.bool false,w,g,?_,G.le_refl g,hw,.p (.sc _ rfl)⟩;have Xg:∃u v,(c.args.toList.map a.eval)=[u,v]/\(Extern.SlicesOverlaps.overlaps #[tS,tS] #[tR] #[u,v]).run P w= .ok (.bool false) w:=by
   rcases ha with ha|ha
   ·rw[ha]at hargs;generalize c.args.toList.map a.eval=l at hargs;cases hargs with|cons h1 hs=>cases hs with|cons h2 hs=>cases hs;exact⟨_,_,rfl,(core _ _ h1 h2).1⟩
   ·rw[ha]at hargs;generalize c.args.toList.map a.eval=l at hargs;cases hargs with|cons h1 hs=>cases hs with|cons h2 hs=>cases hs;exact⟨_,_,rfl,(core _ _ h2 h1).2⟩
  obtain⟨u,v',Jm,hrun⟩:=Xg;have Xh:c.args.map a.eval=#[u,v']:=by
   apply Array.ext';simpa using Jm
  have tO:=run_callFunc_extern f1 f2 f3 f4 f5 #[u,v'] w;rw[hrun]at tO;simp[execOp,ho,resolve,hc,hv,Deferred.ofValue,invoke,Xh,tO]
def Sl(P:Program)(gf:FuncId)(xs:List PC)(r:PC):Prop:=∃fn e,P.funcs[gf]?=some fn/\(fn.name=="runtime.NumGoroutine")=false/\fn.body.isNone=true/\Extern.findNext fn=none/\Extern.find fn=some e/\∀(M:Mem) (w:World) (vs:List Value),gB w M->cJ M vs xs->∃v,(e vs.toArray).run P w= .ok v w/\gO M v r
def ai6(P:Program)(gf:FuncId)(args:List AV)(tb:Tb)(k:AV->Tb->Prop):Prop:=∃xs r,dV (args.map AV.nm)=some xs/\Sl P gf xs r/\k (.p r) tb
theorem adK{c:Call}{f:Operand}{gf:FuncId}{xs:List PC}{r:PC}(ho:o.op= .call c)(hc:c.callee= .value f)(hf:(bE st.sl f).nm= .p (.fn (.func gf) []))(h:Sl P gf xs r)(hx:dV (c.args.toList.map fun y=>(bE st.sl y).nm)=some xs):dA P st o (.p r) st.tb:=bK fun w0 M0 F g a w hw hop=>by
 have qj:∀y,y∈o.op.operands->aX g (a.eval y) ((bE st.sl y).nm):=fun y hy=>bP (hop y hy);have h1:=qj f (by rw[ho];simp[Op.operands,Call.operands,hc]);rw[hf]at h1;have gQ:=aZ h1;generalize hv:a.eval f=v at gQ;cases gQ with
 |fn og=>
  cases og;obtain⟨fn,e,f1,f2,f3,f4,f5,f6⟩:=h;have hargs:=mJ (g:=g) (a:=a) c.args.toList xs (fun y hy=>qj y (by rw[ho];simp[Op.operands,Call.operands,hc];exact Or.inr (by simpa using hy))) hx;obtain⟨v,hrun,hr⟩:=f6 g.M w _ hw.holds hargs;refine⟨v,w,g,?_,G.le_refl g,hw,.p hr⟩;have Xh:c.args.map a.eval=(c.args.toList.map a.eval).toArray:=by
   apply Array.ext';simp
  have tO:=run_callFunc_extern f1 f2 f3 f4 f5 (c.args.toList.map a.eval).toArray w;rw[hrun]at tO;rw[<-Xh]at tO;simp[execOp,ho,resolve,hc,hv,Deferred.ofValue,invoke,tO]
def adL(P:Program)(gf:FuncId)(args:List AV)(tb:Tb)(k:AV->Tb->Prop):Prop:=ai4 P gf args tb k\/ai6 P gf args tb k
theorem Kg{s d e:TypeId}{x:Operand}{b:ByteArray}{bT:Nat}(ho:o.op= .convert s d x)(hx:(bE st.sl x).nm= .p (.sc (.string b)))(hs:isStr P s=true)(hd:dR P d=true)(hel:cU P d=some (e,1,bT))(hl:(bs b).length<=9223372036854775807):dA P st o (.view st.tb.nx 0 (bs b).length 1 none) (st.tb.aS ⟨e+1000000,1,(af (bs b)).map .p⟩):=bK fun w0 M0 F g a w hw h=>by
 have e1:=bP (h x (by simp[ho,Op.operands]));rw[hx]at e1;have e1:=bF e1;obtain⟨e',zY,DL⟩:=oo hd;obtain⟨hU,_⟩:=fK hel;rw[hU]at zY;injection zY with zY;injection zY with zY;subst zY;have hr:=run_bytes_of_string (P:=P) w s d e b (lF hs) hU DL;have hl':=hl;rw[mA]at hl';have hcap:=grownCap_ge w b.size 0 e;have AU:=grownCap_le_maxLen w b.size 0 e (by unfold maxLen;omega);have hwd:aQ w0 M0 F st.tb g w.drew:=hw.drew;generalize grownCap w b.size 0 e=cap at hr hcap AU;have hlen:(bs b).length=b.size:=mA b;have hB:Below w.drew.heap.size w.drew (w.drew.alloc (.cells (bytesRow b cap) e ((bytesRow b cap).size,(bytesRow b cap).size+1))):=(Below.refl _ _).alloc (Nat.le_refl _) _;have hrow:(bytesRow b cap).toList.take (bs b).length=(bs b).map fun b=>Value.int .u8 b.toNat:=by
  unfold bytesRow;rw[Array.toList_append,List.take_append_of_le_length (by simp[hlen])];rw[fY (by simp[hlen])];simp[bs]
 have key:=hwd.Mi (o:=⟨e+1000000,1,(af (bs b)).map .p⟩) (cur:=bytesRow b cap) (c:=cap) hB ⟨e,((bytesRow b cap).size,(bytesRow b cap).size+1),heap_alloc_new w.drew _,.inr ⟨rfl,Nat.le_refl _⟩⟩ (by simp[bytesRow];omega) AU (by simp[bytesRow,af,hlen]) (by
  have e2:((af (bs b)).map AV.p).length=(bs b).length:=by simp[af]
  rw[e2,hrow];exact jZ (kK _ _)) (by intro v hv;unfold bytesRow at hv;simp at hv;rcases hv with⟨_,_,rfl⟩|⟨_,rfl⟩<;>rfl)
 refine⟨.slice (some ⟨w.heap.size,0,none⟩) b.size cap,_,_,?_,hwd.mD _ _,key,?_⟩
 ·simp only[execOp,ho,e1,Sem.run_bind,hr];rfl
 ·have:=aX.view (g:=g.dw st.tb.nx w.heap.size cap) (id:=st.tb.nx) (b:=w.heap.size) (c:=cap) (o:=0) (n:=b.size) (s:=1) (a:=some ⟨w.heap.size,0,none⟩) (by simp[G.dw]) (by omega) AU (by
   rcases Nat.eq_zero_or_pos cap with h0|h0
   ·exact .void h0 (.inr ⟨_,rfl⟩)
   ·exact .real 0 h0 rfl (fun _=>by simp)) (m:=none) (fun k hk=>by cases hk)
  rw[hlen];simpa using this
theorem Oc{d:TypeId}{x:Operand}{id f n z:Nat}{m:Option Nat}{ob:Ob}(ho:o.op= .convert d d x)(hx:bE st.sl x= .view id f n z m)(hd:dR P d=true)(hl:lk id st.tb.bx=some ob)(hel:ob.el<frM)(hne:0<ob.xs.length)(hn:0<n):dA P st o (.view id f n z m) (st.tb.aP id {ob with el:=ob.el+1000000}):=bK fun w0 M0 F g a w hw h=>by
 have h1:=h x (by simp[ho,Op.operands]);rw[hx]at h1;obtain⟨e,zY,DL⟩:=oo hd;generalize hv:a.eval x=v at h1;have yY:=h1;cases h1 with
 |view e3 h3 h4 h5 hm=>
  rename_i b c au;have g_:0<c:=by omega
  cases h5 with
  |void hz _=>omega
  |real off _ had h5=>
  subst had;obtain⟨cur,p2,p3,⟨tt,fz,p4,fo⟩,p5,p6,p7,p8,p9⟩:=(hw.boxes id ob hl).real e3 g_;obtain⟨rfl,rfl⟩:=fo.low hel;have hsh:w.shape? b=some (ob.el,cur.size):=by unfold World.shape?;rw[p4]
  have hfz:(w.freeze ⟨b,cur.size,none⟩ 1).heap[b]?=some (.cells cur ob.el (cur.size,cur.size+1)):=by
   unfold World.freeze;rw[if_neg (by decide)];simp only[Array.getElem?_modify,if_true,p4];rfl
  have key:=hw.Ur (w':=w.freeze ⟨b,cur.size,none⟩ 1) (o':={ob with el:=ob.el+1000000}) hl e3 g_ p4 (by unfold World.freeze;rw[if_neg (by decide)]) (by unfold World.freeze;rw[if_neg (by decide)]) (by unfold World.freeze;rw[if_neg (by decide)]) (by unfold World.freeze;rw[if_neg (by decide)];simp) (fun k hk=>by unfold World.freeze;rw[if_neg (by decide)];simp only[Array.getElem?_modify];rw[if_neg (Ne.symm hk)]) hfz rfl (fun _=> .inr ⟨rfl,Nat.le_refl _⟩) rfl p7 p8 p9;refine⟨_,_,g,?_,G.le_refl g,key,yY⟩;simp[execOp,ho,hv,convert,run_underlying zY,run_underlying DL,markStringish,hsh]
theorem D_{P:Program}{s d:TypeId}{v:Value}{l:List UInt8}{M:Mem}{w:World}(hH:gB w M)(h:gO M v (.sl (af l)))(hs:dR P s=true)(hd:isStr P d=true):(convert s d v).run P w= .ok (uN l) w:=by
 obtain⟨e,zY,DL⟩:=oo hs;generalize hz:af l=zs at h;cases h with
 |cX=>
  have:l=[]:=by cases l<;>simp_all [af]
  subst this;have hr:=run_convert_bytes_string (P:=P) w s d e none 0 0 zY DL (lF hd);rw[hr];rfl
 |rH ad=>
  have:l=[]:=by cases l<;>simp_all [af]
  subst this;have hr:=run_convert_bytes_string (P:=P) w s d e (some ad) 0 0 zY DL (lF hd);rw[hr];rfl
 |sl hn hc hm hsz hu h1c hat pY=>
  rename_i b off n cap sz us;subst hz;have pF:=jW l pY;subst pF;rw[gL]at hat;have hn':n=l.length:=by simpa using hn.symm
  subst hn';have hr:=run_convert_bytes_back (P:=P) w s d e ⟨b,off,none⟩ cap l zY DL (lF hd) (fun j hj=>by
   rw[Addr.add_lit];exact hH _ _ _ (hat j _ (by simp[hj])))
  rw[hr]
theorem Od{s d:TypeId}{x:Operand}{id f n z:Nat}{m:Option Nat}{l:List UInt8}(ho:o.op= .convert s d x)(hx:bE st.sl x= .view id f n z m)(hs:dR P s=true)(hd:isStr P d=true)(hb:cQ st.tb.bx 1 (.view id f n z m) (.sl (af l))):dA P st o (.p (.str l)) st.tb:=bK fun w0 M0 F g a w hw h=>by
 have h1:=h x (by simp[ho,Op.operands]);rw[hx]at h1;have hr:=vo hw (ua hw.holds) (fun _ _ _ _ _ _ _ _ _ h=>h) 1 _ _ _ h1 hb;have hc:=D_ (P:=P) (wH hw.holds) hr hs hd;exact⟨uN l,w,g,by simp only[execOp,ho,Sem.run_bind,hc];rfl,G.le_refl g,hw,.p (.sc _ rfl)⟩
end
end Go.Av
