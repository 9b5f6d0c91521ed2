/- DiskSizes, part 5: an abstract interpreter over a program's form, with the proof that it is sound; it holds for any program that the model takes. -/
import Derived.Test.YtgkdpbambfgahaaGreatDoorWad
import Derived.Laws.Externs
set_option linter.all false
set_option maxRecDepth 100000
set_option maxHeartbeats 64000000
namespace Go.Av
open Go.RowKit
section
variable{P:Program}{st:AS}{o:Oper}{w0:World}{M0:Mem}{F:Nat->Prop}{tb:Tb}{g:G}{w w':World}
theorem aR.Mi(h:aR w0 M0 F tb g w){id b c:Nat}{ob iz:Ob}(hl:lk id tb.bx=some ob)(he:g.ob id=some (b,c))(hel:iz.el=ob.el)(hsz:iz.sz=ob.sz){n:Nat}(hx:iz.xs=ob.xs.take n):aR w0 M0 F ((tb.cE id).aT iz) (g.di tb.nx b c) w:=by
 have hle:=h.kF b c;have hid:id<tb.nx:=h.yU he;refine⟨h.holds,h.keep,h.old,h.BD,fun i p e=>?_,fun i el sz e=>?_,fun i j p q b1 c1 b2 c2 ei ej hij e1 e2 p1 p2=>?_,h.gJ,fun i j p r b1 c1 v ei ej e1 e2 p1=>?_,fun i hi=>?_⟩
 ·simp only[Tb.aT,Tb.cE,bg]at e;split at e
  ·rename_i hi;subst hi;injection e with e;subst e;refine⟨b,c,by simp[G.di],fun hc=>?_,fun hc=>?_⟩
   ·obtain⟨cur,f2,f3,f4,f5,f6,f7,f8,f9⟩:=(h.boxes id ob hl).real he hc;have hlen:iz.xs.length<=ob.xs.length:=by rw[hx,List.length_take];omega
    have hsub:cur.toList.take iz.xs.length=(cur.toList.take ob.xs.length).take iz.xs.length:=by rw[List.take_take,Nat.min_eq_left hlen]
    have hxs:iz.xs=ob.xs.take iz.xs.length:=by rw[hx,List.length_take,<-List.take_take,List.take_length]
    refine⟨cur,f2,f3,by rw[hel];exact f4,by rw[hsz];exact f5,f6,by omega,?_,f9⟩
    ·rw[hsub];have:=(f8.mono hle).take iz.xs.length;rw[<-hxs]at this;exact this
   ·obtain⟨b',c',h1,_,h2⟩:=h.boxes id ob hl;rw[h1]at he;injection he with he;injection he with e1 e2;subst e1;subst e2;rw[hx,h2 hc];simp
  ·rename_i hi;rw[cD]at e;split at e
   ·cases e
   ·obtain⟨b1,c1,f1,fr,f0⟩:=h.boxes i p e;refine⟨b1,c1,hle.ob _ _ f1,fun hp=>?_,f0⟩;obtain⟨ou,f2,f3,f4,f5,f6,f7,f8,f9⟩:=fr hp;exact⟨ou,f2,f3,f4,f5,f6,f7,f8.mono hle,f9⟩
 ·obtain⟨v,f1,f2⟩:=h.rows i el sz e;exact⟨v,f1,f2⟩
 ·simp only[Tb.aT,Tb.cE,bg,cD]at ei ej;simp only[G.di]at e1 e2;split at ei
  ·rename_i hi;rw[if_pos hi]at e1;injection e1 with e1;injection e1 with e1 Jj;subst e1;subst Jj;split at ej
   ·rename_i hj;omega
   ·rename_i hj;rw[if_neg hj]at e2;split at ej
    ·cases ej
    ·rename_i hjd;exact h.fG id j ob q b c b2 c2 hl ej (fun hh=>hjd hh.symm) he e2 p1 p2
  ·rename_i hi;rw[if_neg hi]at e1;split at ei
   ·cases ei
   ·rename_i VG;split at ej
    ·rename_i hj;rw[if_pos hj]at e2;injection e2 with e2;injection e2 with e2 Z7;subst e2;subst Z7;exact h.fG i id p ob b1 c1 b c ei hl VG e1 he p1 p2
    ·rename_i hj;rw[if_neg hj]at e2;split at ej
     ·cases ej
     ·exact h.fG i j p q b1 c1 b2 c2 ei ej hij e1 e2 p1 p2
 ·simp only[Tb.aT,Tb.cE,bg,cD]at ei;simp only[G.di]at e1;split at ei
  ·rename_i hi;rw[if_pos hi]at e1;injection e1 with e1;injection e1 with e1 Jj;subst e1;subst Jj;exact h.eX id j ob r b c v hl ej he e2 p1
  ·rename_i hi;rw[if_neg hi]at e1;split at ei
   ·cases ei
   ·exact h.eX i j p r b1 c1 v ei ej e1 e2 p1
 ·simp only[Tb.aT,Tb.cE]at hi;have:=h.fresh i (by omega);simp only[G.di];rw[if_neg (by omega)];exact this
theorem aR.AU(h:aR w0 M0 F tb g w)(el:TypeId)(sz:Nat):aR w0 M0 F (tb.aT ⟨el,sz,[]⟩) (g.di tb.nx 0 0) w:=by
 have hle:=h.kF 0 0;refine⟨h.holds,h.keep,h.old,h.BD,fun i p e=>?_,fun i el sz e=>?_,fun i j p q b1 c1 b2 c2 ei ej hij e1 e2 p1 p2=>?_,h.gJ,fun i j p r b1 c1 v ei ej e1 e2 p1=>?_,fun i hi=>?_⟩
 ·simp only[Tb.aT,bg]at e;split at e
  ·rename_i hi;subst hi;injection e with e;subst e;exact⟨0,0,by simp[G.di],fun hc=>absurd hc (by omega),fun _=>rfl⟩
  ·obtain⟨b1,c1,f1,fr,f0⟩:=h.boxes i p e;refine⟨b1,c1,hle.ob _ _ f1,fun hp=>?_,f0⟩;obtain⟨ou,f2,f3,f4,f5,f6,f7,f8,f9⟩:=fr hp;exact⟨ou,f2,f3,f4,f5,f6,f7,f8.mono hle,f9⟩
 ·obtain⟨v,f1,f2⟩:=h.rows i el sz e;exact⟨v,f1,f2⟩
 ·simp only[Tb.aT,bg]at ei ej;simp only[G.di]at e1 e2;split at ei
  ·rename_i hi;rw[if_pos hi]at e1;injection e1 with e1;injection e1 with e1 Jj;omega
  ·rename_i hi;rw[if_neg hi]at e1;split at ej
   ·rename_i hj;rw[if_pos hj]at e2;injection e2 with e2;injection e2 with e2 Z7;omega
   ·rename_i hj;rw[if_neg hj]at e2;exact h.fG i j p q b1 c1 b2 c2 ei ej hij e1 e2 p1 p2
 ·simp only[Tb.aT,bg]at ei;simp only[G.di]at e1;split at ei
  ·rename_i hi;rw[if_pos hi]at e1;injection e1 with e1;injection e1 with e1 Jj;omega
  ·rename_i hi;rw[if_neg hi]at e1;exact h.eX i j p r b1 c1 v ei ej e1 e2 p1
 ·simp only[Tb.aT]at hi;have:=h.fresh i (by omega);simp only[G.di];rw[if_neg (by omega)];exact this
def sA(P:Program)(tb:Tb)(u:TypeId)(s:Nat)(y:AV)(k:Nat)(zs:List AV):Prop:=zs.length=k*s/\∀(w0:World) (M0:Mem) (F:Nat->Prop) (g:G) (v:Value) (w:World),aR w0 M0 F tb g w->aZ g v y->∃cs,Src P u s v k cs w/\aL g cs zs
theorem RS{u:TypeId}{s id' f' n':Nat}{m':Option Nat}{iz:Ob}(hu:(aJ P u).isSome=true)(hl':lk id' tb.bx=some iz)(hf':(f'+n')*s<=iz.xs.length):sA P tb u s (.view id' f' n' s m') n' ((iz.xs.drop (f'*s)).take (n'*s)):=by
 have hzl:((iz.xs.drop (f'*s)).take (n'*s)).length=n'*s:=by
  rw[List.length_take,List.length_drop];rw[Nat.add_mul]at hf';omega
 refine⟨hzl,fun w0 M0 F g v w hw hv=>?_⟩;obtain⟨el,hU⟩:=Ew hu;cases hv with
 |view e h3 h4 h5 hm=>
  rename_i b cc ad;by_cases DB:n'*s=0
  ·refine⟨[],⟨.inl ⟨el,hU⟩,by simp[Builtin.lenOf],?_,?_,by simp,by simp[DB]⟩,?_⟩
   ·cases ad<;>simp only[Builtin.firstCells,DB]<;>rfl
   ·cases ad<;>simp only[Builtin.firstCells,DB]<;>rfl
   ·rw[List.eq_nil_of_length_eq_zero (l:=(iz.xs.drop (f'*s)).take (n'*s)) (by omega)];exact .nil
  ·have hkp:0<n':=Nat.pos_of_ne_zero fun h=>DB (by rw[h];simp);cases h5 with
   |void h0 _=>omega
   |real off gH had h5=>
   subst had;obtain rfl:=h5 (.inl (by omega));obtain⟨cs,r1,r2,r3,r4,r5⟩:=tX (P:=P) hw hl' e (f'*s) (n'*s) (by rw[<-Nat.add_mul];exact hf');exact⟨cs,⟨.inl ⟨el,hU⟩,by simp[Builtin.lenOf],by simp only[Builtin.firstCells];exact r2,by simp only[Builtin.firstCells];exact r5,r4,r1⟩,r3⟩
theorem RT{u:TypeId}{s:Nat}{y:AV}{ys:List PC}(hu:(aJ P u).isSome=true)(hy:y.nm= .p (.sl ys))(hw':∀y∈ys,y.width=s)(hn:∀y∈ys,cF y=true):sA P tb u s y ys.length (ys.flatMap aV):=⟨tW ys hw',fun w0 M0 F g v w hw hv=>ahS hu hw' hn hw (by rw[<-hy];exact bU hv)⟩
theorem RU{u:TypeId}{s:Nat}{y:AV}(hu:(aJ P u).isSome=true)(hy:y.nm= .p .nil):sA P tb u s y 0 []:=by
 refine⟨by simp,fun w0 M0 F g v w hw hv=>?_⟩;obtain⟨el,hU⟩:=Ew hu;have hv:=bU hv;rw[hy]at hv;have:=bf hv;cases this;exact⟨[],⟨.inl ⟨el,hU⟩,by simp[Builtin.lenOf],by simp[Builtin.firstCells],by simp[Builtin.firstCells],by simp,by simp⟩,.nil⟩
theorem RV{u:TypeId}{y:AV}{b:ByteArray}(hu:isStr P u=true)(hy:y.nm= .p (.sc (.string b))):sA P tb u 1 y (bs b).length ((ah (bs b)).map .p):=by
 refine⟨by simp[ah],fun w0 M0 F g v w hw hv=>?_⟩;have hv:=bU hv;rw[hy]at hv;have:=bI hv;subst this;refine⟨_,Gk (P:=P) hu,?_⟩;have:∀l:List UInt8,aL g (l.map fun b=>Value.int .u8 b.toNat) ((ah l).map .p):=fun l=>by
  induction l with
  |nil=>exact .nil
  |cons x l ih=>exact .cons (.p (.sc _ rfl)) ih
 exact this _
def nY(P:Program)(tb:Tb)(u:TypeId)(s:Nat)(k:Nat->List AV->Prop):AV->Prop
 | .view id f n s' _=>s'=s/\(aJ P u).isSome=true/\(match lk id tb.bx with
  |some ob=>(f+n)*s<=ob.xs.length/\k n ((ob.xs.drop (f*s)).take (n*s))
  |none=>False)
 |y=>match y.nm with
  | .p (.sl ys)=>(aJ P u).isSome=true/\(∀y∈ys,y.width=s)/\(∀y∈ys,cF y=true)/\k ys.length (ys.flatMap aV)
  | .p .nil=>(aJ P u).isSome=true/\k 0 []
  | .p (.sc (.string b))=>s=1/\isStr P u=true/\k (bs b).length ((ah (bs b)).map .p)
  |_=>False
theorem A9{u:TypeId}{s:Nat}{k:Nat->List AV->Prop}{y:AV}(h:nY P tb u s k y):∃n zs,k n zs/\sA P tb u s y n zs:=by
 unfold nY at h;split at h
 ·obtain⟨rfl,hu,h⟩:=h;split at h
  ·rename_i ob hl;exact⟨_,_,h.2,RS hu hl h.1⟩
  ·exact h.elim
 ·split at h
  ·rename_i ys hy;obtain⟨h1,h2,h3,h⟩:=h;exact⟨_,_,h,RT h1 hy h2 h3⟩
  ·rename_i hy;exact⟨_,_,h.2,RU h.1 hy⟩
  ·rename_i b hy;obtain⟨rfl,h1,h⟩:=h;exact⟨_,_,h,RV h1 hy⟩
  ·exact h.elim
theorem pJ{id f n s:Nat}{cc b:Nat}{ad:Option Addr}{ob:Ob}(hw:aR w0 M0 F tb g w)(hl:lk id tb.bx=some ob)(ee:g.ob id=some (b,cc))(h3:f+n<=cc)(h5:wo ad b cc f s)(hf:(f+n)*s<=ob.xs.length):∃os:List Value,(Builtin.firstCells s n (.slice ad n (cc-f))).run P w.drew= .ok os.toArray w.drew/\os.length=n*s/\aL g os ((ob.xs.drop (f*s)).take (n*s))/\∀v∈os,v.oneCell'=true:=by
 rcases Nat.eq_zero_or_pos n with h0|h0
 ·subst h0;refine⟨[],?_,by simp,by simpa using aL.nil,by simp⟩;cases ad<;>simp[Builtin.firstCells,loadCells,loadCellsFrom]
 ·cases h5 with
  |void h0 _=>omega
  |real off gH had h5=>
  subst had;obtain rfl:=h5 (.inl (by omega));obtain⟨os,r1,r2,r3,r4,r5⟩:=tX (P:=P) hw hl ee (f*s) (n*s) (by rw[<-Nat.add_mul];exact hf);exact⟨os,by simp only[Builtin.firstCells];exact r5,r1,r3,r4⟩
section
variable{c:Call}{x y:Operand}{t u e:TypeId}{id f n s m bV k:Nat}{ob:Ob}{zs:List AV}
theorem XW(ho:o.op= .call c)(hc:c.callee= .builtin .append)(ha:c.args=#[x,y])(hts:c.argTypes=#[t,u])(hx:bH st.sl x= .view id f n s (some m))(hl:lk id st.tb.bx=some ob)(hsz:ob.sz=s)(hel:cV P t=some (e,s,bV))(hf:(f+n)*s<=ob.xs.length)(hroom:f+n+k<=m)(hy:sA P st.tb u s (bH st.sl y) k zs):dx P st o (.view id f (n+k) s (some m)) (st.tb.aQ id {ob with xs:=ob.xs.take ((f+n)*s)++zs++ob.xs.drop ((f+n)*s+k*s)}):=Is ho hc ha hts hx hl hsz hel hf hroom hy.1 hy.2
theorem RW(ho:o.op= .call c)(hc:c.callee= .builtin .append)(ha:c.args=#[x,y])(hts:c.argTypes=#[t,u])(hx:bH st.sl x= .view id f n s (some m))(hl:lk id st.tb.bx=some ob)(hel:cV P t=some (e,s,bV))(hf:(f+n)*s<=ob.xs.length)(hy:sA P st.tb u s (bH st.sl y) k zs)(hroom:m-f<n+k)(hbound:(n+k)*bV<=140737488355328)(gG:n+k<=9223372036854775807):dx P st o (.view st.tb.nx 0 (n+k) s none) (st.tb.aT ⟨e,s,(ob.xs.drop (f*s)).take (n*s)++zs⟩):=bQ fun w0 M0 F g a w hw h=>by
 have h1:=h x (by rw[ho];simp[Op.operands,Call.operands,hc,ha]);rw[hx]at h1;have h2:=h y (by rw[ho];simp[Op.operands,Call.operands,hc,ha]);obtain⟨cs,hsrc,hz⟩:=hy.2 w0 M0 F g _ w hw h2;generalize hv:a.eval x=v at h1;cases h1 with
 |view ee h3 h4 h5 hm=>
  rename_i b cc ad;obtain rfl:=hm _ rfl;obtain⟨os,q0,r1,r3,r4⟩:=pJ (P:=P) hw hl ee h3 h5 hf;obtain⟨v',w',g',k1,k2,k3,k4⟩:=tJ (P:=P) (ty:=o.type) (n:=n) (cap:=cc-f) (ad:=ad) hw hel q0 r3 r4 (by rw[<-r3.length,r1]) hsrc hz hroom hbound gG;exact⟨v',w',g',by rw[cT ho hc ha hts,hv,k1];rfl,k2,k3,k4⟩
theorem XX(ho:o.op= .call c)(hc:c.callee= .builtin .append)(ha:c.args=#[x,y])(hts:c.argTypes=#[t,u])(hx:bH st.sl x= .view id 0 n s none)(hl:lk id st.tb.bx=some ob)(hsz:ob.sz=s)(Xs:ob.el=e)(hel:cV P t=some (e,s,bV))(hf:n*s<=ob.xs.length)(hy:sA P st.tb u s (bH st.sl y) k zs)(hbound:(n+k)*bV<=140737488355328)(gG:n+k<=9223372036854775807):dx P st o (.view st.tb.nx 0 (n+k) s none) ((st.tb.cE id).aT ⟨e,s,ob.xs.take (n*s)++zs⟩):=bQ fun w0 M0 F g a w hw h=>by
 have h1:=h x (by rw[ho];simp[Op.operands,Call.operands,hc,ha]);rw[hx]at h1;have h2:=h y (by rw[ho];simp[Op.operands,Call.operands,hc,ha]);obtain⟨cs,hsrc,hz⟩:=hy.2 w0 M0 F g _ w hw h2;obtain⟨hU,i,z,hi,_,mY,qu,hzs⟩:=fk hel;generalize hv:a.eval x=v at h1;cases h1 with
 |view ee h3 h4 h5 hm=>
  rename_i b cc ad;by_cases hroom:n+k<=cc
  ·have we:wo (ad.map fun a=>a.add (n*s)) b cc (0+n) s:=by
    cases h5 with
    |real off gH had h5=>
     subst had;refine .real (off+n*s) gH (by simp[Addr.add_lit]) fun hh=>?_;rw[h5 (by omega),Nat.add_mul]
    |void h0 s_=>
     refine .void h0 ?_;rcases s_ with rfl|⟨a',rfl⟩
     ·exact .inl rfl
     ·exact .inr ⟨_,rfl⟩
   obtain⟨w',r1,r0,r2⟩:=kY (P:=P) (f:=0+n) (n:=k) (k:=k) hw hl ee hsz (by omega) we hz hsrc.one (Nat.le_refl _) hy.1 (by simpa using hf);have hzl:=hy.1;have r3:=r2.Mi (id:=id) (ob:={ob with xs:=ob.xs.take ((0+n)*s)++zs++ob.xs.drop ((0+n)*s+zs.length)}) (iz:=⟨e,s,ob.xs.take (n*s)++zs⟩) (n:=n*s+k*s) (by simp[Tb.aQ,bg]) ee Xs.symm hsz.symm (by
    simp only[Nat.zero_add];have e1:(ob.xs.take (n*s)++zs).length=n*s+k*s:=by rw[List.length_append,List.length_take,hzl];omega
    rw[<-e1];exact(List.take_left' rfl).symm)
   refine⟨.slice ad (n+k) cc,w',g.di st.tb.nx b cc,?_,hw.kF _ _,r3.sub (fun i o e=>?_) (fun _ _ e=>e) (Nat.le_refl _),?_⟩
   ·rw[cT ho hc ha hts,hv];obtain⟨q1,q2,q3,_,_,_⟩:=hsrc;have hfit:n+k<=cc:=by omega
    subst mY;have:(Builtin.append_ #[t,u] o.type #[.slice ad n (cc-0),a.eval y]).run P w= .ok (.slice ad (n+k) cc) w':=by
     cases ad with
     |none=>
      obtain rfl:=r0 rfl;rcases q1 with⟨e',q1⟩|q1<;>simp[Builtin.append_,run_underlying hU,run_underlying q1,sizeOf,typeInfo,hi,q2,hfit,q3]
     |some ad=>
      have r1:=r1 _ rfl;rcases q1 with⟨e',q1⟩|q1<;>simp[Builtin.append_,run_underlying hU,run_underlying q1,sizeOf,typeInfo,hi,q2,hfit,q3,r1]
    rw[this];rfl
   ·simp only[Tb.aT,Tb.cE,Tb.aQ,bg,cD]at e⊢;split at e
    ·rename_i hi;rw[if_pos hi];exact e
    ·rename_i hi;rw[if_neg hi];split at e
     ·cases e
     ·rename_i hid;simp only[if_neg hid]at e⊢;exact e
   ·have:=aZ.view (g:=g.di st.tb.nx b cc) (id:=st.tb.nx) (b:=b) (c:=cc) (o:=0) (n:=n+k) (s:=s) (a:=ad) (m:=none) (by simp[G.di]) (by omega) h4 h5 (by simp);simpa using this
  ·obtain⟨os,q0,r1,r3,r4⟩:=pJ (P:=P) hw hl ee h3 h5 (by simpa using hf);obtain⟨v',w',g',k1,k2,k3,k4⟩:=tJ (P:=P) (ty:=o.type) (n:=n) (cap:=cc-0) (ad:=ad) hw hel q0 r3 r4 (by rw[<-r3.length,r1]) hsrc hz (by omega) hbound gG;simp only[Nat.zero_mul,List.drop_zero]at k3;refine⟨v',w',g',by rw[cT ho hc ha hts,hv,k1];rfl,k2,k3.sub (fun i o e=>?_) (fun _ _ e=>e) (Nat.le_refl _),k4⟩;simp only[Tb.aT,Tb.cE,bg,cD]at e⊢;split at e
   ·rename_i hi;rw[if_pos hi];exact e
   ·rename_i hi;rw[if_neg hi];split at e
    ·cases e
    ·exact e
theorem XY(ho:o.op= .call c)(hc:c.callee= .builtin .append)(ha:c.args=#[x,y])(hts:c.argTypes=#[t,u])(hx:bH st.sl x= .full []\/bH st.sl x= .p .nil)(hel:cV P t=some (e,s,bV))(hy:sA P st.tb u s (bH st.sl y) k zs)(hbound:k*bV<=140737488355328)(gG:k<=9223372036854775807):dx P st o (.view st.tb.nx 0 k s none) (st.tb.aT ⟨e,s,zs⟩):=bQ fun w0 M0 F g a w hw h=>by
 have h1:=h x (by rw[ho];simp[Op.operands,Call.operands,hc,ha]);have h2:=h y (by rw[ho];simp[Op.operands,Call.operands,hc,ha]);obtain⟨cs,hsrc,hz⟩:=hy.2 w0 M0 F g _ w hw h2;obtain⟨hU,i,z,hi,_,mY,qu,hzs⟩:=fk hel;obtain⟨ad,hv,s_⟩:∃ad,a.eval x= .slice ad 0 0/\(ad=none\/∃a',ad=some a'):=by
  rcases hx with hx|hx
  ·rw[hx]at h1;generalize a.eval x=v at h1;cases h1 with
   |full hr=>cases hr with
    |dg=>exact⟨none,rfl,.inl rfl⟩
    |p_ a=>exact⟨_,rfl,.inr ⟨_,rfl⟩⟩
    |sl hn _ _ _ _ _ _ hs=>have:=hs.length;simp at this;rw[this]at hn;simp at hn;subst hn;exact⟨_,rfl,.inr ⟨_,rfl⟩⟩
  ·rw[hx]at h1;have:=bf h1;generalize a.eval x=v at this;cases this;exact⟨none,rfl,.inl rfl⟩
 rcases Nat.eq_zero_or_pos k with hk|hk
 ·subst hk;have hz0:zs=[]:=List.eq_nil_of_length_eq_zero (by rw[hy.1];simp);subst hz0;have hcs:cs=[]:=by cases hz;rfl
  subst hcs;subst mY;refine⟨.slice ad 0 0,w,g.di st.tb.nx 0 0,?_,hw.kF _ _,hw.AU e i.size,?_⟩
  ·rw[cT ho hc ha hts,hv,ng hU hi hsrc (Nat.le_refl _)];rfl
  ·have:=aZ.view (g:=g.di st.tb.nx 0 0) (id:=st.tb.nx) (b:=0) (c:=0) (o:=0) (n:=0) (s:=i.size) (a:=ad) (m:=none) (by simp[G.di]) (by omega) (by unfold maxLen;omega) (.void rfl s_) (by simp);simpa using this
 ·obtain⟨v',w',g',k1,k2,k3,k4⟩:=tJ (P:=P) (ty:=o.type) (n:=0) (cap:=0) (ad:=ad) (olds:=[]) (zo:=[]) hw hel (by cases ad<;>simp[Builtin.firstCells,loadCells,loadCellsFrom]) .nil (by simp) (by simp) hsrc hz (by omega) (by simpa using hbound) (by omega);simp only[Nat.zero_add,List.nil_append]at k3 k4;exact⟨v',w',g',by rw[cT ho hc ha hts,hv,k1];rfl,k2,k3,k4⟩
end
end
section
variable{P:Program}{st:AS}{o:Oper}{w0:World}{M0:Mem}{F:Nat->Prop}{tb:Tb}{g:G}{w w':World}
theorem yK{t u ty e:TypeId}{i:TypeInfo}{z:Value}{kd vi:IntKind}(ht:P.underlying t=some (.slice e))(hu:P.underlying u=some (.int kd))(hi:P.info? e=some i)(hz:i.zero=some z)(hsz:0<i.size){s:Value}{a:Option Addr}{sLen sCap j:Nat}{olds:List Value}{w:World}(hzs:z.cells.size=i.size)(hs:s= .slice a sLen sCap)(hold:(Builtin.firstCells i.size sLen s).run P w.drew= .ok olds.toArray w.drew)(hroom:sCap<sLen+j)(h63:sLen+j<=9223372036854775807)(hfit:Builtin.nextslicecap (sLen+j) sCap*i.bytes<=281474976710656)(hj:j*i.bytes<=281474976710656)(hjp:0<j):(Builtin.append_ #[t,u] ty #[s,.int vi j]).run P w= .ok (.slice (some ⟨w.heap.size,0,none⟩) (sLen+j) (grownCap w (sLen+j) sCap e)) (w.drew.alloc (.cells (olds.toArray++Builtin.zeroCells z.cells j++Builtin.zeroCells z.cells (grownCap w (sLen+j) sCap e-(sLen+j))) e)):=by
 have hn:¬(sLen+j<=sCap):=by omega
 have h63':¬(9223372036854775807<((sLen:Int)+(j:Int))):=by omega
 have V1:¬(281474976710656<Builtin.nextslicecap (sLen+j) sCap*i.bytes):=by omega
 have lg:IntKind.i64.wrap (j:Int)=j:=IntWalk.i64_in _ ⟨by omega,by omega⟩;have hjb:¬(281474976710656<(j:Int)*(i.bytes:Int)):=by
  have:((j*i.bytes:Nat):Int)<=281474976710656:=Int.ofNat_le.2 hj;rw[Int.natCast_mul]at this;omega
 have hneg:¬((j:Int)<0):=by omega
 have h0:¬(j*i.size=0):=fun h=>by rcases Nat.mul_eq_zero.1 h with h|h<;>omega
 subst hs;simp[Builtin.append_,run_underlying ht,run_underlying hu,sizeOf,typeInfo,zeroValue,hi,hz,hn,h63',V1,Question.forced,hold,newRow,grownCap,asInt,asIntOf,lg,hjb,hneg];intro h;exact absurd h h0
theorem qA{t u ty e:TypeId}{s bV n cap j:Nat}{kd vi:IntKind}(hw:aR w0 M0 F tb g w)(hel:cV P t=some (e,s,bV))(hu:P.underlying u=some (.int kd)){z:List PC}(hz:bJ P e=some z)(hs:0<s){ad:Option Addr}{olds:List Value}{zo:List AV}(hold:(Builtin.firstCells s n (.slice ad n cap)).run P w.drew= .ok olds.toArray w.drew)(ho:aL g olds zo)(ho1:∀v∈olds,v.oneCell'=true)(yt:zo.length=n*s)(hj:0<j)(hgrow:cap<n+j)(hbound:(n+j)*bV<=140737488355328)(gG:n+j<=9223372036854775807):∃v' w' g',(Builtin.append_ #[t,u] ty #[.slice ad n cap,.int vi j]).run P w= .ok v' w'/\g.le g'/\aR w0 M0 F (tb.aT ⟨e,s,zo++(fC j z).map .p⟩) g' w'/\aZ g' v' (.view tb.nx 0 (n+j) s none):=by
 obtain⟨hU,i,zv,hi,yI,mY,qu,hzs⟩:=fk hel;obtain⟨Uq,mH,rfl,hone⟩:=sk hz hi;rw[yI]at mH;injection mH with mH;subst mH;subst mY;have hfit:Builtin.nextslicecap (n+j) cap*i.bytes<=281474976710656:=growslice_fits hgrow (by rw[qu];exact hbound);have hjb:j*i.bytes<=281474976710656:=by
  have:j*i.bytes<=(n+j)*bV:=by rw[qu];exact Nat.mul_le_mul_right _ (by omega)
  omega
 have hrun:=yK (P:=P) (ty:=ty) (vi:=vi) hU hu hi yI hs hzs rfl hold hgrow gG hfit hjb hj;have hge:=grownCap_ge w (n+j) cap e;have Uf:=grownCap_le_maxLen w (n+j) cap e (by unfold maxLen;omega);generalize grownCap w (n+j) cap e=C at*;have hlo:=ho.length;have so:=mX (z:=zv.cells) (by omega) j;have hr:=pI j (Builtin.zeroCells zv.cells j) so g.M hone;have vO:(olds.toArray++Builtin.zeroCells zv.cells j++Builtin.zeroCells zv.cells (C-(n+j))).size=C*i.size:=by
  simp only[Array.size_append,List.size_toArray,size_zeroCells,hzs,hlo,yt];rw[<-Nat.add_mul,<-Nat.add_mul];congr 1;omega
 have hB:Below w.drew.heap.size w.drew (w.drew.alloc (.cells (olds.toArray++Builtin.zeroCells zv.cells j++Builtin.zeroCells zv.cells (C-(n+j))) e)):=(Below.refl _ _).alloc (Nat.le_refl _) _;have hlen:(zo++(fC j (zv.cells.toList.map c1)).map AV.p).length=(olds++(Builtin.zeroCells zv.cells j).toList).length:=by
  simp only[List.length_append,hlo,List.length_map,oH,Array.length_toList,size_zeroCells]
 have rX:(olds.toArray++Builtin.zeroCells zv.cells j++Builtin.zeroCells zv.cells (C-(n+j))).toList.take (zo++(fC j (zv.cells.toList.map c1)).map AV.p).length=olds++(Builtin.zeroCells zv.cells j).toList:=by
  rw[hlen];simp only[Array.toList_append];rw[List.take_append_of_le_length (by simp)];exact List.take_of_length_le (by simp)
 have hle:(zo++(fC j (zv.cells.toList.map c1)).map AV.p).length<=(olds.toArray++Builtin.zeroCells zv.cells j++Builtin.zeroCells zv.cells (C-(n+j))).size:=by rw[hlen];simp only[Array.size_append,List.size_toArray,List.length_append,Array.length_toList];omega
 have key:=hw.drew.yV (o:=⟨e,i.size,zo++(fC j (zv.cells.toList.map c1)).map AV.p⟩) (c:=C) hB (heap_alloc_new w.drew _) vO Uf hle (by rw[rX];exact ho.append (ja hr.1)) (by
  intro v hv;simp only[Array.toList_append,List.mem_append]at hv;rcases hv with(hv|hv)|hv
  ·exact ho1 v (by simpa using hv)
  ·exact hr.2 v hv
  ·exact zl hone v hv)
 exact⟨_,_,_,hrun,hw.drew.kF _ _,key,by
  have:=aZ.view (g:=g.di tb.nx w.drew.heap.size C) (id:=tb.nx) (b:=w.drew.heap.size) (c:=C) (o:=0) (n:=n+j) (s:=i.size) (a:=some ⟨w.drew.heap.size,0,none⟩) (m:=none) (by simp[G.di]) (by omega) Uf (.real 0 (by omega) rfl (fun _=>by simp)) (by simp);simpa using this⟩
section
variable{c:Call}{x y:Operand}{t u e:TypeId}{id f n s m bV j:Nat}{ob:Ob}{z:List PC}{kd vi:IntKind}
theorem qB{t:TypeId}{k:IntKind}(h:Av.intOf P t=some k):P.underlying t=some (.int k):=by
 unfold Av.intOf at h;split at h
 ·rename_i hU;injection h with h;subst h;exact hU
 ·cases h
theorem Q9(ho:o.op= .call c)(hc:c.callee= .builtin .append)(ha:c.args=#[x,y])(hts:c.argTypes=#[t,u])(hx:bH st.sl x= .view id f n s (some m))(hl:lk id st.tb.bx=some ob)(hel:cV P t=some (e,s,bV))(hs:0<s)(hf:(f+n)*s<=ob.xs.length)(hu:Av.intOf P u=some kd)(hz:bJ P e=some z)(hy:(bH st.sl y).nm= .p (.sc (.int vi j)))(hj:0<j)(hroom:m-f<n+j)(hbound:(n+j)*bV<=140737488355328)(gG:n+j<=9223372036854775807):dx P st o (.view st.tb.nx 0 (n+j) s none) (st.tb.aT ⟨e,s,(ob.xs.drop (f*s)).take (n*s)++(fC j z).map .p⟩):=bQ fun w0 M0 F g a w hw h=>by
 have h1:=h x (by rw[ho];simp[Op.operands,Call.operands,hc,ha]);rw[hx]at h1;have h2:=bU (h y (by rw[ho];simp[Op.operands,Call.operands,hc,ha]));rw[hy]at h2;have h2:=bI h2;generalize hv:a.eval x=v at h1;cases h1 with
 |view ee h3 h4 h5 hm=>
  rename_i b cc ad;obtain rfl:=hm _ rfl;obtain⟨os,q0,r1,r3,r4⟩:=pJ (P:=P) hw hl ee h3 h5 hf;obtain⟨v',w',g',k1,k2,k3,k4⟩:=qA (P:=P) (ty:=o.type) (vi:=vi) (n:=n) (cap:=cc-f) (ad:=ad) hw hel (qB hu) hz hs q0 r3 r4 (by rw[<-r3.length,r1]) hj hroom hbound gG;exact⟨v',w',g',by rw[cT ho hc ha hts,hv,h2,k1];rfl,k2,k3,k4⟩
theorem Mh(ho:o.op= .call c)(hc:c.callee= .builtin .append)(ha:c.args=#[x,y])(hts:c.argTypes=#[t,u])(hx:bH st.sl x= .view id 0 n s none)(hl:lk id st.tb.bx=some ob)(hsz:ob.sz=s)(Xs:ob.el=e)(hel:cV P t=some (e,s,bV))(hs:0<s)(hf:n*s<=ob.xs.length)(hu:Av.intOf P u=some kd)(hz:bJ P e=some z)(hy:(bH st.sl y).nm= .p (.sc (.int vi j)))(hj:0<j)(hbound:(n+j)*bV<=140737488355328)(gG:n+j<=9223372036854775807):dx P st o (.view st.tb.nx 0 (n+j) s none) ((st.tb.cE id).aT ⟨e,s,ob.xs.take (n*s)++(fC j z).map .p⟩):=bQ fun w0 M0 F g a w hw h=>by
 have h1:=h x (by rw[ho];simp[Op.operands,Call.operands,hc,ha]);rw[hx]at h1;have h2:=bU (h y (by rw[ho];simp[Op.operands,Call.operands,hc,ha]));rw[hy]at h2;have h2:=bI h2;obtain⟨hU,i,zv,hi,yI,mY,qu,hzs⟩:=fk hel;obtain⟨Uq,mH,ahk,hone⟩:=sk hz hi;have hzc:Uq.cells=zv.cells:=by rw[yI]at mH;injection mH with h;rw[h]
 have hul:=qB hu;generalize hv:a.eval x=v at h1;cases h1 with
 |view ee h3 h4 h5 hm=>
  rename_i b cc ad;by_cases hroom:n+j<=cc
  ·have we:wo (ad.map fun a=>a.add (n*s)) b cc (0+n) s:=by
    cases h5 with
    |real off gH had h5=>
     subst had;refine .real (off+n*s) gH (by simp[Addr.add_lit]) fun hh=>?_;rw[h5 (by omega),Nat.add_mul]
    |void h0 s_=>
     refine .void h0 ?_;rcases s_ with rfl|⟨a',rfl⟩
     ·exact .inl rfl
     ·exact .inr ⟨_,rfl⟩
   have so:=mX (z:=Uq.cells) (by rw[hzc];omega) j;have hr:=pI j (Builtin.zeroCells Uq.cells j) so g.M hone;have hzl:(fC j z).length=j*s:=by rw[oH,ahk,List.length_map,Array.length_toList,hzc,hzs]
   obtain⟨w',r1,r0,r2⟩:=kY (P:=P) (f:=0+n) (n:=j) (k:=j) hw hl ee hsz (by omega) we (cs:=(Builtin.zeroCells Uq.cells j).toList) (zs:=(fC j z).map .p) (by rw[ahk];exact ja hr.1) hr.2 (Nat.le_refl _) (by rw[List.length_map,hzl]) (by simpa using hf);have r3:=r2.Mi (id:=id) (ob:={ob with xs:=ob.xs.take ((0+n)*s)++(fC j z).map .p++ob.xs.drop ((0+n)*s+((fC j z).map AV.p).length)}) (iz:=⟨e,s,ob.xs.take (n*s)++(fC j z).map .p⟩) (n:=n*s+j*s) (by simp[Tb.aQ,bg]) ee Xs.symm hsz.symm (by
    simp only[Nat.zero_add];have e1:(ob.xs.take (n*s)++(fC j z).map AV.p).length=n*s+j*s:=by rw[List.length_append,List.length_take,List.length_map,hzl];omega
    rw[<-e1];exact(List.take_left' rfl).symm)
   refine⟨.slice ad (n+j) cc,w',g.di st.tb.nx b cc,?_,hw.kF _ _,r3.sub (fun i o e=>?_) (fun _ _ e=>e) (Nat.le_refl _),?_⟩
   ·rw[cT ho hc ha hts,hv,h2];have lg:IntKind.i64.wrap (j:Int)=j:=IntWalk.i64_in _ ⟨by omega,by omega⟩;have hjn:j*i.bytes<=281474976710656:=by
     have:j*i.bytes<=(n+j)*bV:=by rw[qu];exact Nat.mul_le_mul_right _ (by omega)
     omega
    have hjb:¬(281474976710656<(j:Int)*(i.bytes:Int)):=by
     have:((j*i.bytes:Nat):Int)<=281474976710656:=Int.ofNat_le.2 hjn;rw[Int.natCast_mul]at this;omega
    have hneg:¬((j:Int)<0):=by omega
    have h0:¬(j=0\/i.size=0):=by rintro(h|h)<;>omega
    have Ji:¬i.size=0:=by omega
    have hj0:¬j=0:=by omega
    subst mY;have ahl:i.zero=some Uq:=mH;have:(Builtin.append_ #[t,u] o.type #[.slice ad n (cc-0),.int vi j]).run P w= .ok (.slice ad (n+j) cc) w':=by
     cases ad with
     |none=>
      obtain rfl:=r0 rfl;simp[Builtin.append_,run_underlying hU,run_underlying hul,sizeOf,typeInfo,zeroValue,hi,ahl,hroom,asInt,asIntOf,lg,hjb,hneg]
     |some ad=>
      have r1:=r1 _ rfl;simp[Builtin.append_,run_underlying hU,run_underlying hul,sizeOf,typeInfo,zeroValue,hi,ahl,hroom,asInt,asIntOf,lg,hjb,hneg,r1];intro h;exact absurd h (by intro h;rcases Nat.mul_eq_zero.1 h with h|h<;>omega)
    rw[this];rfl
   ·simp only[Tb.aT,Tb.cE,Tb.aQ,bg,cD]at e⊢;split at e
    ·rename_i hi;rw[if_pos hi];exact e
    ·rename_i hi;rw[if_neg hi];split at e
     ·cases e
     ·rename_i hid;simp only[if_neg hid]at e⊢;exact e
   ·have:=aZ.view (g:=g.di st.tb.nx b cc) (id:=st.tb.nx) (b:=b) (c:=cc) (o:=0) (n:=n+j) (s:=s) (a:=ad) (m:=none) (by simp[G.di]) (by omega) h4 h5 (by simp);simpa using this
  ·obtain⟨os,q0,r1,r3,r4⟩:=pJ (P:=P) hw hl ee h3 h5 (by simpa using hf);obtain⟨v',w',g',k1,k2,k3,k4⟩:=qA (P:=P) (ty:=o.type) (vi:=vi) (n:=n) (cap:=cc-0) (ad:=ad) hw hel hul hz hs q0 r3 r4 (by rw[<-r3.length,r1]) hj (by omega) hbound gG;simp only[Nat.zero_mul,List.drop_zero]at k3;refine⟨v',w',g',by rw[cT ho hc ha hts,hv,h2,k1];rfl,k2,k3.sub (fun i o e=>?_) (fun _ _ e=>e) (Nat.le_refl _),k4⟩;simp only[Tb.aT,Tb.cE,bg,cD]at e⊢;split at e
   ·rename_i hi;rw[if_pos hi];exact e
   ·rename_i hi;rw[if_neg hi];split at e
    ·cases e
    ·exact e
theorem Mj(ho:o.op= .call c)(hc:c.callee= .builtin .append)(ha:c.args=#[x,y])(hts:c.argTypes=#[t,u])(hx:bH st.sl x= .full []\/bH st.sl x= .p .nil)(hel:cV P t=some (e,s,bV))(hs:0<s)(hu:Av.intOf P u=some kd)(hz:bJ P e=some z)(hy:(bH st.sl y).nm= .p (.sc (.int vi j)))(hj:0<j)(hbound:j*bV<=140737488355328)(gG:j<=9223372036854775807):dx P st o (.view st.tb.nx 0 j s none) (st.tb.aT ⟨e,s,(fC j z).map .p⟩):=bQ fun w0 M0 F g a w hw h=>by
 have h1:=h x (by rw[ho];simp[Op.operands,Call.operands,hc,ha]);have h2:=bU (h y (by rw[ho];simp[Op.operands,Call.operands,hc,ha]));rw[hy]at h2;have h2:=bI h2;obtain⟨ad,hv⟩:∃ad,a.eval x= .slice ad 0 0:=by
  rcases hx with hx|hx
  ·rw[hx]at h1;generalize a.eval x=v at h1;cases h1 with
   |full hr=>cases hr with
    |dg=>exact⟨none,rfl⟩
    |p_ a=>exact⟨_,rfl⟩
    |sl hn _ _ _ _ _ _ hs=>have:=hs.length;simp at this;rw[this]at hn;simp at hn;subst hn;exact⟨_,rfl⟩
  ·rw[hx]at h1;have:=bf h1;generalize a.eval x=v at this;cases this;exact⟨none,rfl⟩
 obtain⟨v',w',g',k1,k2,k3,k4⟩:=qA (P:=P) (ty:=o.type) (vi:=vi) (n:=0) (cap:=0) (ad:=ad) (olds:=[]) (zo:=[]) hw hel (qB hu) hz hs (by cases ad<;>simp[Builtin.firstCells,loadCells,loadCellsFrom]) .nil (by simp) (by simp) hj (by omega) (by simpa using hbound) (by omega);simp only[Nat.zero_add,List.nil_append]at k3 k4;exact⟨v',w',g',by rw[cT ho hc ha hts,hv,h2,k1];rfl,k2,k3,k4⟩
end
end
section
variable{P:Program}{st:AS}{o:Oper}
theorem ahm{t e:TypeId}{sz bV n:Nat}{ps:Array (Nat×Operand)}{ys:List PC}(ho:o.op= .buildSlice t n ps)(ht:cV P t=some (e,sz,bV))(hsz:0<sz)(Ol:bq 0 ps.toList=true)(hn:ps.size=n)(mV:n*sz<=16777216)(hys:dR (ps.toList.map fun p=>(bH st.sl p.2).nm)=some ys)(hw':∀y∈ys,y.width=sz)(hnt:∀y∈ys,cF y=true):dx P st o (.view st.tb.nx 0 n sz (some n)) (st.tb.aT ⟨e,sz,ys.flatMap aV⟩):=bQ fun w0 M0 F g a w hw h=>by
 have hr:=kJ (g:=g) (a:=a) (ps.toList.map (·.2)) ys (fun y hy=>bU (h y (by rw[ho];simpa[Op.operands]using hy))) (by rw[List.map_map];exact hys);have iE:=cY hr hw';have oJ:(((ps.map fun(i,x)=>(i,a.eval x)).toList).map (·.2))=(ps.toList.map (·.2)).map a.eval:=by simp
 have Ey:bq 0 ((ps.map fun(i,x)=>(i,a.eval x)).toList)=true:=by
  have key:∀(l:List (Nat×Operand)) (k:Nat),bq k l=true->bq k (l.map fun p=>(p.1,a.eval p.2))=true:=by
   intro l
   induction l with
   |nil=>intro k _;rfl
   |cons p l ih=>intro k hk;simp only[bq,Bool.and_eq_true,List.map_cons]at hk⊢;exact⟨hk.1,ih _ hk.2⟩
  have:=key ps.toList 0 Ol;simpa using this
 have hrun:=jc (P:=P) (w:=w) (n:=n) ht Ey (by simp[hn]) mV hsz (by rw[oJ];exact iE);rw[oJ]at hrun;generalize nw:(ps.toList.map (·.2)).map a.eval=us at hr iE hrun;have hlen:us.length=n:=by rw[<-nw];simp[hn]
 have Jn:=nh hr hnt;have gR:(cellsOf us).length=n*sz:=by rw[cN us iE,hlen]
 have hlc:(ys.flatMap aV).length=n*sz:=by rw[<-Jn.length,gR]
 have hone:∀v∈cellsOf us,v.oneCell'=true:=by
  have key:∀{us:List Value} {ys:List PC},cP g.M us ys->(∀y∈ys,cF y=true)->∀u∈cellsOf us,u.oneCell'=true:=by
   intro us ys hr
   induction us generalizing ys with
   |nil=>intro _ u hu;simp[cellsOf]at hu
   |cons v us ih=>
    intro hb u hu;cases hr with
    |cons hv hr=>
     rename_i y ys;simp only[cellsOf,List.flatMap_cons,List.mem_append]at hu;rcases hu with hu|hu
     ·have hby:=hb y (by simp);by_cases hp:y.plain=true
      ·obtain⟨e1,e2⟩:=gT hv hp;rw[e1]at hu;simp at hu;subst hu;exact e2
      ·cases y with
       |agg b xs=>
        cases b with
        |true=>cases hby
        |false=>cases hv with
         |agg hs h1=>exact h1 u (by simpa[Value.cells]using hu)
       |_=>simp[PC.plain]at hp
     ·exact ih hr (fun y hy=>hb y (by simp[hy])) u hu
  exact key hr hnt
 have hB:Below w.heap.size w (w.alloc (.cells (cellsOf us).toArray e)):=(Below.refl _ _).alloc (Nat.le_refl _) _;have gG:n<=maxLen:=by
  have:n*1<=n*sz:=Nat.mul_le_mul_left _ hsz;unfold maxLen;omega
 have key:=hw.yV (o:=⟨e,sz,ys.flatMap aV⟩) (cur:=(cellsOf us).toArray) (c:=n) hB (heap_alloc_new w _) (by simp[gR]) gG (by simp[hlc,gR]) (by simp only[hlc,<-gR,List.take_length];exact Jn) (by simpa using hone);refine⟨.slice (some ⟨w.heap.size,0,none⟩) n n,_,_,?_,hw.kF _ _,key,?_⟩
 ·have Ez:ps.map (fun(p:Nat×Operand)=>(p.1,a.eval p.2))=((ps.map fun(i,x)=>(i,a.eval x)).toList).toArray:=by apply Array.ext';simp
  simp only[execOp,ho,Sem.run_bind];have xG:(Instr.buildSlice t n (ps.map fun(x:Nat×Operand)=>(x.1,a.eval x.2))).run P w= .ok (.slice (some ⟨w.heap.size,0,none⟩) n n) (w.alloc (.cells (cellsOf us).toArray e)):=by rw[Ez];exact hrun
  rw[xG];rfl
 ·have:=aZ.view (g:=g.di st.tb.nx w.heap.size n) (id:=st.tb.nx) (b:=w.heap.size) (c:=n) (o:=0) (n:=n) (s:=sz) (a:=some ⟨w.heap.size,0,none⟩) (by simp[G.di]) (by omega) gG (by
   rcases Nat.eq_zero_or_pos n with h0|h0
   ·exact .void h0 (.inr ⟨_,rfl⟩)
   ·exact .real 0 h0 rfl (fun _=>by simp)) (m:=some n) (fun k hk=>by injection hk)
  simpa using this
def tQ(sz:Nat):Option (List AV)->Option (List AV)->Option (List AV)
 |some zs,some r=>if zs.length=sz then some (zs++r)else none
 |_,_=>none
def kZ(sz:Nat):List AV->Option (List AV)
 |[]=>some []
 |x::l=>tQ sz x.cR (kZ sz l)
theorem xH{g:G}{sz:Nat}:∀{us:List Value} {xs zs:List AV},aL g us xs->kZ sz xs=some zs->aL g (cellsOf us) zs/\(∀u∈us,u.cells.size=sz)/\∀v∈cellsOf us,v.oneCell'=true
 |[],[],zs,_,h=>by simp only[kZ,Option.some.injEq]at h;subst h;exact⟨.nil,by simp,by simp[cellsOf]⟩
 |u::us,x::xs,zs,.cons hx hs,h=>by
  simp only[kZ]at h;cases h1:x.cR with
  |none=>rw[h1]at h;simp[tQ]at h
  |some z=>
   cases h2:kZ sz xs with
   |none=>rw[h1,h2]at h;simp[tQ]at h
   |some r=>
    rw[h1,h2]at h;simp only[tQ]at h;split at h
    ·rename_i hl;injection h with h;subst h;obtain⟨a1,a2⟩:=m0 hx h1;obtain⟨b1,b2,b3⟩:=xH hs h2;refine⟨by simpa[cellsOf]using a1.append b1,?_,?_⟩
     ·intro v hv;rcases List.mem_cons.1 hv with rfl|hv
      ·rw[<-hl,<-a1.length];simp
      ·exact b2 v hv
     ·intro v hv;simp only[cellsOf,List.flatMap_cons,List.mem_append]at hv;rcases hv with hv|hv
      ·exact a2 v hv
      ·exact b3 v hv
    ·cases h
theorem Xt{t e:TypeId}{sz bV n:Nat}{ps:Array (Nat×Operand)}{zs:List AV}(ho:o.op= .buildSlice t n ps)(ht:cV P t=some (e,sz,bV))(hsz:0<sz)(Ol:bq 0 ps.toList=true)(hn:ps.size=n)(mV:n*sz<=16777216)(hzs:kZ sz (ps.toList.map fun p=>bH st.sl p.2)=some zs):dx P st o (.view st.tb.nx 0 n sz (some n)) (st.tb.aT ⟨e,sz,zs⟩):=bQ fun w0 M0 F g a w hw h=>by
 have hr0:=rE (g:=g) (a:=a) (sl:=st.sl) (ps.toList.map (·.2)) (fun y hy=>h y (by rw[ho];simpa[Op.operands]using hy));have hm:(ps.toList.map (·.2)).map (bH st.sl)=ps.toList.map fun p=>bH st.sl p.2:=by simp
 rw[hm]at hr0;obtain⟨Jn,iE,hone⟩:=xH hr0 hzs;have oJ:(((ps.map fun(i,x)=>(i,a.eval x)).toList).map (·.2))=(ps.toList.map (·.2)).map a.eval:=by simp
 have Ey:bq 0 ((ps.map fun(i,x)=>(i,a.eval x)).toList)=true:=by
  have key:∀(l:List (Nat×Operand)) (k:Nat),bq k l=true->bq k (l.map fun p=>(p.1,a.eval p.2))=true:=by
   intro l
   induction l with
   |nil=>intro k _;rfl
   |cons p l ih=>intro k hk;simp only[bq,Bool.and_eq_true,List.map_cons]at hk⊢;exact⟨hk.1,ih _ hk.2⟩
  have:=key ps.toList 0 Ol;simpa using this
 have hrun:=jc (P:=P) (w:=w) (n:=n) ht Ey (by simp[hn]) mV hsz (by rw[oJ];exact iE);rw[oJ]at hrun;generalize nw:(ps.toList.map (·.2)).map a.eval=us at Jn iE hone hrun;have hlen:us.length=n:=by rw[<-nw];simp[hn]
 have gR:(cellsOf us).length=n*sz:=by rw[cN us iE,hlen]
 have hlc:zs.length=n*sz:=by rw[<-Jn.length,gR]
 have hB:Below w.heap.size w (w.alloc (.cells (cellsOf us).toArray e)):=(Below.refl _ _).alloc (Nat.le_refl _) _;have gG:n<=maxLen:=by
  have:n*1<=n*sz:=Nat.mul_le_mul_left _ hsz;unfold maxLen;omega
 have key:=hw.yV (o:=⟨e,sz,zs⟩) (cur:=(cellsOf us).toArray) (c:=n) hB (heap_alloc_new w _) (by simp[gR]) gG (by simp[hlc,gR]) (by simp only[hlc,<-gR,List.take_length];exact Jn) (by simpa using hone);refine⟨.slice (some ⟨w.heap.size,0,none⟩) n n,_,_,?_,hw.kF _ _,key,?_⟩
 ·have Ez:ps.map (fun(p:Nat×Operand)=>(p.1,a.eval p.2))=((ps.map fun(i,x)=>(i,a.eval x)).toList).toArray:=by apply Array.ext';simp
  simp only[execOp,ho,Sem.run_bind];have xG:(Instr.buildSlice t n (ps.map fun(x:Nat×Operand)=>(x.1,a.eval x.2))).run P w= .ok (.slice (some ⟨w.heap.size,0,none⟩) n n) (w.alloc (.cells (cellsOf us).toArray e)):=by rw[Ez];exact hrun
  rw[xG];rfl
 ·have:=aZ.view (g:=g.di st.tb.nx w.heap.size n) (id:=st.tb.nx) (b:=w.heap.size) (c:=n) (o:=0) (n:=n) (s:=sz) (a:=some ⟨w.heap.size,0,none⟩) (by simp[G.di]) (by omega) gG (by
   rcases Nat.eq_zero_or_pos n with h0|h0
   ·exact .void h0 (.inr ⟨_,rfl⟩)
   ·exact .real 0 h0 rfl (fun _=>by simp)) (m:=some n) (fun k hk=>by injection hk)
  simpa using this
end
section
variable{P:Program}{st:AS}{o:Oper}
theorem q_{M:Mem}:∀{vs:List Value},(∀v∈vs,v.oneCell'=true)->cellsOf vs=vs
 |[],_=>rfl
 |v::vs,h=>by
  have h1:v.cells=#[v]:=by have:=h v (by simp);cases v<;>simp_all [Value.cells,Value.oneCell']
  have h2:=q_ (M:=M) (vs:=vs) (fun u hu=>h u (by simp[hu]));simp only[cellsOf,List.flatMap_cons]at h2⊢;rw[h2,h1];rfl
theorem OZ{t:TypeId}{x:Operand}{id m:Nat}{ag:Bool}{ob:Ob}{zs:List PC}(ho:o.op= .slice t x none none none)(hx:bH st.sl x= .obj id 0)(hl:lk id st.tb.bx=some ob)(hA:gL P t=some (m,1,ag))(hxs:ob.xs=zs.map .p)(hsz:ob.sz=m)(hlen:zs.length=m)(hm:0<m)(hmm:m<=maxLen):dx P st o (.full zs) ⟨del id st.tb.bx,st.tb.rw,st.tb.nx+1⟩:=bQ fun w0 M0 F g a w hw h=>by
 have e1:=h x (by simp[ho,Op.operands]);rw[hx]at e1;generalize hv:a.eval x=v at e1;cases e1 with
 |obj e=>
  rename_i b c;have hne:ob.xs≠[]:=fun h0=>by rw[hxs]at h0;have h1:=congrArg List.length h0;rw[List.length_map,List.length_nil]at h1;omega
  have gH:=(hw.boxes id ob hl).pos e hne;obtain⟨N,hM,hS,hR⟩:=hw.vr (n:=1) (ys:=[.agg false zs]) hl e gH (by rw[hsz];exact hm) gH (by rw[hxs,hsz,Nat.one_mul];simp[hlen]) (by rw[hxs,hsz,<-hlen,Nat.one_mul];simp[aV,List.take_of_length_le]) rfl (by simp[PC.width,hlen,hsz]) (by simp[cF]);have hS':=hS.oq st.tb.nx;have htb:(((st.tb.cE id).bX ob.el ob.sz).oq st.tb.nx).rw=del st.tb.nx st.tb.rw:=by simp[Tb.oq,Tb.bX,Tb.cE,del]
  have hS2:aR w0 M0 F ⟨del id st.tb.bx,st.tb.rw,st.tb.nx+1⟩ ((g.with N).cX st.tb.nx (.slice (some ⟨b,0,none⟩) 1 c)) w:=by
   refine hS'.sub (fun i p e=>e) (fun i r e=>?_) (Nat.le_refl _);rw[htb,cD];rw[if_neg]
   ·exact e
   ·intro hi;obtain⟨el,sz⟩:=r;obtain⟨v,OW,_⟩:=hw.rows i el sz e;have:=hw.mh OW;omega
  have J6:(g.with N).le ((g.with N).cX st.tb.nx (.slice (some ⟨b,0,none⟩) 1 c)):=⟨Mem.le_refl _,fun _ _ e=>e,fun i p e=>by have:=hw.mh e;simp only[G.cX];rw[if_neg (by omega)];exact e⟩;refine⟨.slice (some ⟨b,0,none⟩) m m,w,_,?_,(G.mQ hM).trans J6,hS2,?_⟩
  ·unfold gL at hA;split at hA
   ·rename_i m' el hU;split at hA
    ·rename_i s' a' hs' G5;injection hA with hA;obtain⟨rfl,rfl,rfl⟩:=by simpa using hA
     simp[execOp,ho,hv,Instr.sliceAt,Instr.sliceBounds,Instr.sureAddr,run_underlying hU,run_sizeOf hs',Addr.add]
    ·cases hA
   ·cases hA
  ·refine .full ?_;cases hR with
   |sl hn hc O0 O1 hu h1 dS hs=>
    rename_i us;cases hs with
    |cons hr hs=>
     cases hs;cases hr with
     |agg oe hone=>
      rename_i vs;have hcell:cellsOf [Value.agg vs.toArray]=vs:=by simp[cellsOf,Value.cells]
      rw[hcell]at dS;have G6:=oe.length;exact .sl (us:=vs) (sz:=1) (by omega) (Nat.le_refl _) hmm (by decide) (fun u hu=>by have:=hone u hu;cases u<;>simp_all [Value.cells,Value.oneCell']) (by rw[q_ (M:=N) hone];exact hone) (by rw[q_ (M:=N) hone];exact dS) oe
end
section
variable{P:Program}{st:AS}{o:Oper}{w0:World}{M0:Mem}{F:Nat->Prop}{tb:Tb}{g:G}{w w':World}
theorem aR.VE(h:aR w0 M0 F tb g w){id b c c':Nat}{ob iz:Ob}(hl:lk id tb.bx=some ob)(he:g.ob id=some (b,c))(hel:iz.el=ob.el)(hsz:iz.sz=ob.sz){n:Nat}(hx:iz.xs=ob.xs.take n)(VF:c'<=c)(hc0:c'=0->n=0):aR w0 M0 F ((tb.cE id).aT iz) (g.di tb.nx b c') w:=by
 have hle:=h.kF b c';have hid:id<tb.nx:=h.yU he;refine⟨h.holds,h.keep,h.old,h.BD,fun i p e=>?_,fun i el sz e=>?_,fun i j p q b1 c1 b2 c2 ei ej hij e1 e2 p1 p2=>?_,h.gJ,fun i j p r b1 c1 v ei ej e1 e2 p1=>?_,fun i hi=>?_⟩
 ·simp only[Tb.aT,Tb.cE,bg]at e;split at e
  ·rename_i hi;subst hi;injection e with e;subst e;refine⟨b,c',by simp[G.di],fun hc=>?_,fun hc=>?_⟩
   ·obtain⟨cur,f2,f3,f4,f5,f6,f7,f8,f9⟩:=(h.boxes id ob hl).real he (by omega);have hlen:iz.xs.length<=ob.xs.length:=by rw[hx,List.length_take];omega
    have hsub:cur.toList.take iz.xs.length=(cur.toList.take ob.xs.length).take iz.xs.length:=by rw[List.take_take,Nat.min_eq_left hlen]
    have hxs:iz.xs=ob.xs.take iz.xs.length:=by rw[hx,List.length_take,<-List.take_take,List.take_length]
    refine⟨cur,f2,f3,by rw[hel];exact f4,by rw[hsz];exact Nat.le_trans (Nat.mul_le_mul_right _ VF) f5,by omega,by omega,?_,f9⟩
    ·rw[hsub];have:=(f8.mono hle).take iz.xs.length;rw[<-hxs]at this;exact this
   ·rw[hx,hc0 hc];simp
  ·rename_i hi;rw[cD]at e;split at e
   ·cases e
   ·obtain⟨b1,c1,f1,fr,f0⟩:=h.boxes i p e;refine⟨b1,c1,hle.ob _ _ f1,fun hp=>?_,f0⟩;obtain⟨ou,f2,f3,f4,f5,f6,f7,f8,f9⟩:=fr hp;exact⟨ou,f2,f3,f4,f5,f6,f7,f8.mono hle,f9⟩
 ·obtain⟨v,f1,f2⟩:=h.rows i el sz e;exact⟨v,f1,f2⟩
 ·simp only[Tb.aT,Tb.cE,bg,cD]at ei ej;simp only[G.di]at e1 e2;split at ei
  ·rename_i hi;rw[if_pos hi]at e1;injection e1 with e1;injection e1 with e1 Jj;subst e1;subst Jj;split at ej
   ·rename_i hj;omega
   ·rename_i hj;rw[if_neg hj]at e2;split at ej
    ·cases ej
    ·rename_i hjd;exact h.fG id j ob q b c b2 c2 hl ej (fun hh=>hjd hh.symm) he e2 (by omega) p2
  ·rename_i hi;rw[if_neg hi]at e1;split at ei
   ·cases ei
   ·rename_i VG;split at ej
    ·rename_i hj;rw[if_pos hj]at e2;injection e2 with e2;injection e2 with e2 Z7;subst e2;subst Z7;exact h.fG i id p ob b1 c1 b c ei hl VG e1 he p1 (by omega)
    ·rename_i hj;rw[if_neg hj]at e2;split at ej
     ·cases ej
     ·exact h.fG i j p q b1 c1 b2 c2 ei ej hij e1 e2 p1 p2
 ·simp only[Tb.aT,Tb.cE,bg,cD]at ei;simp only[G.di]at e1;split at ei
  ·rename_i hi;rw[if_pos hi]at e1;injection e1 with e1;injection e1 with e1 Jj;subst e1;subst Jj;exact h.eX id j ob r b c v hl ej he e2 (by omega)
  ·rename_i hi;rw[if_neg hi]at e1;split at ei
   ·cases ei
   ·exact h.eX i j p r b1 c1 v ei ej e1 e2 p1
 ·simp only[Tb.aT,Tb.cE]at hi;have:=h.fresh i (by omega);simp only[G.di];rw[if_neg (by omega)];exact this
theorem VH{t:TypeId}{x:Operand}{hi mx:Operand}{id n s:Nat}{m:Option Nat}{ob:Ob}{k1 k2:IntKind}(ho:o.op= .slice t x none (some hi) (some mx))(hx:bH st.sl x= .view id 0 n s m)(hsz:aJ P t=some s)(hl:lk id st.tb.bx=some ob)(hos:ob.sz=s)(hhi:(bH st.sl hi).nm= .p (.sc (.int k1 n)))(O0:(bH st.sl mx).nm= .p (.sc (.int k2 n))):dx P st o (.view st.tb.nx 0 n s (some n)) ((st.tb.cE id).aT ⟨ob.el,ob.sz,ob.xs.take (n*s)⟩):=bQ fun w0 M0 F g a w hw hr=>by
 have e1:=hr x (by simp[ho,Op.operands]);rw[hx]at e1;have e2:=bU (hr hi (by simp[ho,Op.operands]));rw[hhi]at e2;have e3:=bU (hr mx (by simp[ho,Op.operands]));rw[O0]at e3;have e2:=bI e2;have e3:=bI e3;obtain⟨el,hU,hs⟩:=gN hsz;generalize hv:a.eval x=v at e1;cases e1 with
 |view e h4 h5 h6 hm=>
  rename_i b cc ad;have hb:=ow (P:=P) (n:=n) (cap:=cc) (l:=0) (h:=n) (m:=n) (lo:=none) (k1:=k1) (k2:=k2) (.inl ⟨rfl,rfl⟩) (by omega) (by omega) (by omega) w;have h1:=hw.VE (id:=id) (c':=n) (iz:=⟨ob.el,ob.sz,ob.xs.take (n*s)⟩) hl e rfl rfl rfl (by omega) (fun h=>by subst h;simp);refine⟨.slice ad n n,w,g.di st.tb.nx b n,?_,hw.kF _ _,h1,?_⟩
  ·have hd:Option.map (fun x:Addr=>x.add 0) ad=ad:=by cases ad with
    |none=>rfl
    |some ad=>simp[Addr.add]
   simp[execOp,ho,hv,e2,e3,Instr.sliceAt,Instr.slice,run_underlying hU,hb,run_sizeOf hs,hd]
  ·have s_:wo ad b n 0 s:=by
    cases h6 with
    |void h0 s_=>exact .void (by omega) s_
    |real off gH had h5=>
     subst had;rcases Nat.eq_zero_or_pos n with h0|h0
     ·subst h0;exact .void rfl (.inr ⟨_,rfl⟩)
     ·exact .real off h0 rfl (fun _=>h5 (.inl gH))
   have:=aZ.view (g:=g.di st.tb.nx b n) (id:=st.tb.nx) (b:=b) (c:=n) (o:=0) (n:=n) (s:=s) (a:=ad) (m:=some n) (by simp[G.di]) (by omega) (by omega) s_ (fun k hk=>by injection hk);simpa using this
end
def lK(w:World):Mem:=fun b o=>w.cell? ⟨b,o,none⟩
theorem rY{w:World}{M:Mem}(h:fT w M):M.le (lK w):=fun b o v e=>h b o v e
theorem uJ{w:World}{M:Mem}(h:fT w M):fT w (lK w):=⟨fun _ _ _ h=>h,h.g.mono (rY h)⟩
def ie{α β:Type}(p:α->β->Prop):List α->List β->Prop
 |[],[]=>True
 |x::l,y::m=>p x y/\ie p l m
 |_,_=>False
def cQ(bx:List (Nat×Ob)):Nat->AV->PC->Prop
 |0,_,_=>False
 |k+1,.view id o n s _,.sl ys=>∃ob,lk id bx=some ob/\0<s/\ys.length=n/\(o+n)*s<=ob.xs.length/\(ob.xs.drop (o*s)).take (n*s)=ys.flatMap aV/\(∀y∈ys,y.width=s)/\(∀y∈ys,cF y=true)
 |k+1,.obj id off,.ref (.agg false ys)=>∃ob,lk id bx=some ob/\off+ys.length<=ob.xs.length/\ie (cQ bx k) ((ob.xs.drop off).take ys.length) ys
 |k+1,.obj id off,.ref y=>∃ob z,lk id bx=some ob/\ob.xs[off]?=some z/\y.plain=true/\cQ bx k z y
 |k+1,.agg t xs,.agg t' ys=>t=t'/\ie (cQ bx k) xs ys
 |k+1,.jZ f xs,.fn f' ys=>f=f'/\ie (cQ bx k) xs ys
 |k+1,x,y=>∃p,x.pc=some p/\(y=p\/y=p.wk)
section
variable{P:Program}{st:AS}{o:Oper}{w0:World}{M0:Mem}{F:Nat->Prop}{tb:Tb}{g:G}{w w':World}
theorem ju{M:Mem}{p:AV->PC->Prop}(hp:∀v x y,aZ g v x->p x y->gB M v y):∀{vs:List Value} {xs:List AV} {ys:List PC},aL g vs xs->ie p xs ys->cP M vs ys
 |_,[],[],.nil,_=> .nil
 |_,_::_,_::_,.cons h hs,e=> .cons (hp _ _ _ h e.1) (ju hp hs e.2)
 |_,[],_::_,_,e=>e.elim
 |_,_::_,[],_,e=>e.elim
theorem tM(hw:aR w0 M0 F tb g w){N:Mem}(hM:g.M.le N)(hN:∀id ob b c,lk id tb.bx=some ob->g.ob id=some (b,c)->0<c->∀o v,w.cell? ⟨b,o,none⟩=some v->N b o=some v):∀(k:Nat) (v:Value) (x:AV) (y:PC),aZ g v x->cQ tb.bx k x y->gB N v y:=by
 have last:∀(v:Value) (x:AV) (y:PC),aZ g v x->(∃p,x.pc=some p/\(y=p\/y=p.wk))->gB N v y:=fun v x y h e=>by
  obtain⟨p,e,rfl|rfl⟩:=e
  ·exact(mZ h _ e).mono hM
  ·exact(DS (mZ h p e)).mono hM
 intro k
 induction k with
 |zero=>intro v x y _ h;exact h.elim
 |succ k ih=>
  intro v x y hv h;unfold cQ at h;split at h
  ·cases h
  ·rename_i kk id of n s m ys hk;obtain⟨ob,hl,hs,hn,hle,hc,Du,hnt⟩:=h;cases hv with
   |view e h3 h4 h5 hm=>
    rename_i b cc ad;rcases Nat.eq_zero_or_pos n with h0|h0
    ·have:ys=[]:=List.eq_nil_of_length_eq_zero (by omega);subst this;subst h0;cases ad with
     |none=>
      cases h5 with
      |real _ _ ha _=>cases ha
      |void hz _=>
       subst hz;have:0-of=0:=by omega
       rw[this];exact .dg
     |some ad=>
      cases h5 with
      |real off _ ha _=>
       injection ha with ha;subst ha;exact .sl (us:=[]) rfl (by omega) (by omega) hs (by simp) (by simp[cellsOf]) (fun j v e=>by simp[cellsOf]at e) .nil
      |void hz0 _=>
       subst hz0;have:0-of=0:=by omega
       rw[this];exact .p_ ad
    ·cases h5 with
     |void hz _=>omega
     |real off gH had h5=>
     subst had;obtain rfl:=h5 (.inl (by omega));obtain⟨cur,f2,f3,⟨tt,fz,f4,fo⟩,f5,f6,f7,f8,f9⟩:=(hw.boxes id ob hl).real e gH;have e3:((cur.toList.take ob.xs.length).drop (of*s)).take (n*s)=(cur.toList.drop (of*s)).take (n*s):=by
      rw[Nat.add_mul]at hle;rw[List.drop_take,List.take_take,Nat.min_eq_left (by omega)]
     have Jn:aL g ((cur.toList.drop (of*s)).take (n*s)) (ys.flatMap aV):=by
      have:=(f8.drop (of*s)).take (n*s);rw[e3,hc]at this;exact this
     have hone:∀u∈(cur.toList.drop (of*s)).take (n*s),u.oneCell'=true:=fun u hu=>f9 u (by
      rw[<-e3]at hu;exact List.mem_of_mem_take (List.mem_of_mem_drop (List.mem_of_mem_take hu)))
     obtain⟨us,nw,xw⟩:=qv ys Jn hone hnt;have Ug:=xw.length;refine .sl (us:=us) (by omega) (by omega) (by omega) hs (cY xw Du) (fun v hv=>hone v (by rw[<-nw];exact hv)) ?_ (xw.mono hM);rw[nw];intro j u hj;rw[List.getElem?_take]at hj;split at hj
     ·rw[List.getElem?_drop]at hj;refine hN id ob b cc hl e gH _ _ ?_;unfold World.cell?;rw[f4];simpa using hj
     ·cases hj
  ·rename_i kk id off ys hk;obtain⟨ob,hl,hle,hall⟩:=h;cases hv with
   |obj e=>
    rename_i b cc;by_cases hne:ob.xs=[]
    ·rw[hne]at hle;simp only[List.length_nil,Nat.le_zero]at hle;have:ys=[]:=List.eq_nil_of_length_eq_zero (by omega);subst this;refine .ref (u:= .agg #[]) (fun j v e=>by simp[Value.cells]at e) ?_;exact gB.agg (vs:=[]) .nil (by simp)
    ·have gH:=(hw.boxes id ob hl).pos e hne;obtain⟨cur,f2,f3,⟨tt,fz,f4,fo⟩,f5,f6,f7,f8,f9⟩:=(hw.boxes id ob hl).real e gH;have e3:((cur.toList.take ob.xs.length).drop off).take ys.length=(cur.toList.drop off).take ys.length:=by
      rw[List.drop_take,List.take_take,Nat.min_eq_left (by omega)]
     have Jn:aL g ((cur.toList.drop off).take ys.length) ((ob.xs.drop off).take ys.length):=by
      have:=(f8.drop off).take ys.length;rw[e3]at this;exact this
     refine .ref (u:= .agg ((cur.toList.drop off).take ys.length).toArray) (fun j u hj=>?_) (gB.agg (ju (fun v x y h1 h2=>ih v x y h1 (by cases hk;exact h2)) Jn hall) (fun u hu=>f9 u ?_))
     ·simp only[Value.cells]at hj;rw[List.getElem?_take]at hj;split at hj
      ·rw[List.getElem?_drop]at hj;refine hN id ob b cc hl e gH _ _ ?_;unfold World.cell?;rw[f4];simpa using hj
      ·cases hj
     ·rw[<-e3]at hu;exact List.mem_of_mem_take (List.mem_of_mem_drop (List.mem_of_mem_take hu))
  ·rename_i kk id off y _ hk;obtain⟨ob,z,hl,hz,hp,hb⟩:=h;cases hv with
   |obj e=>
    rename_i b cc;have hne:ob.xs≠[]:=fun hn=>by rw[hn]at hz;simp at hz
    have gH:=(hw.boxes id ob hl).pos e hne;obtain⟨cur,f2,f3,⟨tt,fz,f4,fo⟩,f5,f6,f7,f8,f9⟩:=(hw.boxes id ob hl).real e gH;obtain⟨u,hu,hr⟩:=f8.get hz;have hy:gB N u y:=ih u z y hr (by cases hk;exact hb);refine .ref (u:=u) (fun j u' hj=>?_) hy;rw[(gT hy hp).1]at hj;cases j with
    |succ j=>simp at hj
    |zero=>
     simp at hj;subst hj;refine hN id ob b cc hl e gH _ _ ?_;rw[List.getElem?_take]at hu;split at hu
     ·unfold World.cell?;rw[f4];simpa using hu
     ·cases hu
  ·rename_i kk t xs t' ys hk;obtain⟨rfl,hall⟩:=h;cases hv with
   |agg hs h1=>exact .agg (ju (fun v x y h1 h2=>ih v x y h1 (by cases hk;exact h2)) hs hall) h1
   |o4 hs=>exact .o4 (ju (fun v x y h1 h2=>ih v x y h1 (by cases hk;exact h2)) hs hall)
  ·rename_i kk f xs f' ys hk;obtain⟨rfl,hall⟩:=h;cases hv with
   |jZ hs=>exact .fn (ju (fun v x y h1 h2=>ih v x y h1 (by cases hk;exact h2)) hs hall)
  ·exact last v _ _ hv h
theorem LR(hw:aR w0 M0 F tb g w)(k:Nat)(v:Value)(x:AV)(y:PC)(hv:aZ g v x)(h:cQ tb.bx k x y):gB (lK w) v y:=tM hw (rY hw.holds) (fun _ _ _ _ _ _ _ _ _ h=>h) k v x y hv h
def PC.flat:PC->Bool
 | .sc _=>true
 | .nil=>true
 | .agg _ xs=>Gb xs
 |_=>false
where Gb:List PC->Bool
 |[]=>true
 |x::l=>x.flat&&Gb l
mutual
theorem Ch{M N:Mem}:∀{v:Value} (x:PC),gB M v x->x.flat=true->gB N v x
 |v,.sc u,h,_=>by cases h with|sc _ h=>exact .sc _ h
 |v,.nil,h,_=>by cases h;exact .nil
 |v,.agg t xs,h,hf=>by
  simp only[PC.flat]at hf;cases h with
  |agg hs h1=>exact .agg (tN xs hs hf) h1
  |o4 hs=>exact .o4 (tN xs hs hf)
 |v,.sl xs,_,hf=>by simp[PC.flat]at hf
 |v,.ref x,_,hf=>by simp[PC.flat]at hf
 |v,.fn f xs,_,hf=>by simp[PC.flat]at hf
theorem tN{M N:Mem}:∀{vs:List Value} (xs:List PC),cP M vs xs->PC.flat.Gb xs=true->cP N vs xs
 |_,[],h,_=>by cases h;exact .nil
 |_,x::xs,h,hf=>by
  simp only[PC.flat.Gb,Bool.and_eq_true]at hf;cases h with|cons h1 hs=>exact .cons (Ch x h1 hf.1) (tN xs hs hf.2)
end
def LS(P:Program)(gf:FuncId)(caps:List PC)(args:List AV)(tb:Tb)(k:AV->Tb->Prop):Prop:=∃ys r n,ie (cQ tb.bx n) args ys/\aB P gf (ys++caps) r/\r.flat=true/\k (.p r) tb
theorem QW{n:Nat}{c:Call}{f:Operand}{gf:FuncId}{caps ys:List PC}{r:PC}(ho:o.op= .call c)(hc:c.callee= .value f)(hf:(bH st.sl f).nm= .p (.fn (.func gf) caps))(hx:ie (cQ st.tb.bx n) (c.args.toList.map (bH st.sl)) ys)(hp:aB P gf (ys++caps) r)(hr:r.flat=true):dx P st o (.p r) st.tb:=by
 intro w0 M0 F g a w hw hop K Q hK;have ox:∀y,y∈o.op.operands->aZ g (a.eval y) (bH st.sl y):=fun y hy=>iq y fun t e=>hop t (e▸hy);have h1:=bU (ox f (by rw[ho];simp[Op.operands,Call.operands,hc]));rw[hf]at h1;have gD:=bf h1;generalize hv:a.eval f=v at gD;cases gD with
 |fn mq=>
  rename_i cv;have hargs:=iK (g:=g) (a:=a) (sl:=st.sl) c.args.toList (fun y hy=>ox y (by rw[ho];simp[Op.operands,Call.operands,hc];exact Or.inr (by simpa using hy)));have hall:=(ju (fun v x y h1 h2=>LR hw n v x y h1 h2) hargs hx).append (mq.mono (rY hw.holds));have hrun:(execOp a.eval o).run P w= .ok (.enter gf ((c.args.toList.map a.eval)++cv).toArray) w:=by
   simp[execOp,ho,resolve,hc,hv,Deferred.ofValue,invoke,fL hp.1]
  unfold Oper.wp;rw[hrun];refine(hp.2 (lK w) w _ (uJ hw.holds) hall).mono ?_;rintro e' w' ⟨v',N,rfl,hr',hH,hM,hO,hB⟩;have hH':fT w' g.M:=⟨fun b o v e=>by
   have hlt:=hw.holds.lt e;rw[hB.cell (p:=⟨b,o,none⟩) hlt];exact hw.holds b o v e,hw.holds.g⟩
  have hw':=hw.later (Mem.le_refl _) hH' (fun _ _=>rfl) hB;exact hK v' w' g (G.le_refl g) hw' (.p (Ch _ hr' hr))
theorem Gc{h1:Option Addr->Nat->Nat->Option Addr->Nat->Nat->Sem Value}{h2:Array Value->Sem Value}{a b:Option Addr}{la ca lb cb:Nat}:Extern.SlicesOverlaps.overlaps.match_4 (fun _=>Sem Value) #[.slice a la ca,.slice b lb cb] h1 h2=h1 a la ca b lb cb:=rfl
theorem Ge{P:Program}(w:World)(tS tR e:TypeId)(ht:P.underlying tS=some (.slice e))(size:Nat)(hz:∀w,(Go.sizeOf e).run P w= .ok size w)(a b:Addr)(la ca lb cb:Nat)(hne:a.block≠b.block)(tA tB:TypeId)(kA kB:Nat)(Uh:w.shape? a.block=some (tA,kA))(hsb:w.shape? b.block=some (tB,kB))(hkA:kA≠0)(V6:kB≠0)(hf:(w.frozen? a=false/\w.frozen? {block:=a.block,off:=kA}=false)\/(w.frozen? b=false/\w.frozen? {block:=b.block,off:=kB}=false)):(Extern.SlicesOverlaps.overlaps #[tS,tS] #[tR] #[.slice (some a) la ca,.slice (some b) lb cb]).run P w= .ok (.bool false) w:=by
 have hnb:(a.block !=b.block)=true:=by simpa using hne
 have ag9:(a.block==b.block)=false:=by simpa using hne
 delta Extern.SlicesOverlaps.overlaps
 rw[Gc];by_cases h0:la=0\/lb=0\/size=0
 ·simp[run_underlying ht,hz,h0]
 ·cases kA with
  |zero=>exact absurd rfl hkA
  |succ kA=>
  cases kB with
  |zero=>exact absurd rfl V6
  |succ kB=>
   rcases hf with⟨h1,h2⟩|⟨h1,h2⟩
   ·simp[run_underlying ht,hz,h0,hnb,ag9,frozen,noView,viewAt,mayBeOne,stringish,shape,Sem.run,Uh,hsb,h1,h2]
   ·simp[run_underlying ht,hz,h0,hnb,ag9,frozen,noView,viewAt,mayBeOne,stringish,shape,Sem.run,Uh,hsb,h1,h2]
    all_goals (cases w.frozen? a<;>simp[h1,h2])
    all_goals (cases w.frozen? {block:=a.block,off:=kA+1}<;>simp[h1,h2])
theorem LU(w:World)(tS tR e:TypeId)(ht:P.underlying tS=some (.slice e))(size:Nat)(hz:∀w,(Go.sizeOf e).run P w= .ok size w)(a b:Option Addr)(la ca lb cb:Nat)(h:a=none\/b=none\/la=0\/lb=0):(Extern.SlicesOverlaps.overlaps #[tS,tS] #[tR] #[.slice a la ca,.slice b lb cb]).run P w= .ok (.bool false) w:=by
 delta Extern.SlicesOverlaps.overlaps
 rw[Gc];cases a with
 |none=>simp[run_underlying ht,hz]
 |some a=>
  cases b with
  |none=>simp[run_underlying ht,hz]
  |some b=>
   have h0:la=0\/lb=0\/size=0:=by
    rcases h with h|h|h|h
    ·cases h
    ·cases h
    ·exact .inl h
    ·exact .inr (.inl h)
   simp[run_underlying ht,hz,h0]
def HX(P:Program)(gf:FuncId):Prop:=∃fn tS tR e,P.funcs[gf]?=some fn/\(fn.name=="runtime.NumGoroutine")=false/\fn.body.isNone=true/\Extern.findNext fn=none/\Extern.find fn=some (Extern.SlicesOverlaps.overlaps #[tS,tS] #[tR])/\P.underlying tS=some (.slice e)/\(aP P e).isSome=true
def qX:AV->Prop
 | .p (.sl _)=>True
 | .p .nil=>True
 |_=>False
def amV(P:Program)(gf:FuncId)(args:List AV)(tb:Tb)(k:AV->Tb->Prop):Prop:=HX P gf/\k (.p (.bool false)) tb/\∃id o n s m y ob,(args=[.view id o n s m,y]\/args=[y,.view id o n s m])/\lk id tb.bx=some ob/\ob.sz=s/\0<s/\ob.el<1000000/\qX y.nm
theorem QX{M:Mem}{w:World}{v:Value}{y:AV}(hH:fT w M)(hv:∀x,y= .p x->gB M v x)(h:qX y):∃ad n c,v= .slice ad n c/\∀a,ad=some a->0<n->(∃t k,w.shape? a.block=some (t,k)/\k≠0)/\∃o u,M a.block o=some u:=by
 unfold qX at h;split at h
 ·rename_i xs;have:=hv _ rfl;cases this with
  |dg=>exact⟨none,0,0,rfl,fun a e=>by cases e⟩
  |p_ a=>exact⟨some a,0,0,rfl,fun _ _ h=>by omega⟩
  |sl hn hc hm hsz hu h1 dS hr=>
   rename_i b off n cap sz us;refine⟨_,_,_,rfl,fun a e hn0=>?_⟩;injection e with e;subst e;have gR:=cN us hu;have hpos:0<(cellsOf us).length:=by rw[gR];exact Nat.mul_pos (by omega) hsz
   have hM:=dS 0 ((cellsOf us)[0]) (List.getElem?_eq_getElem hpos);refine⟨?_,_,_,hM⟩;have hc:=hH _ _ _ hM;unfold World.cell? at hc;simp only[Option.isSome_none,Bool.false_eq_true,if_false]at hc;split at hc
   ·rename_i cs t f hb;refine⟨t,cs.size,by unfold World.shape?;simp only[hb],?_⟩;intro h0;rw[Array.getElem?_eq_none (by omega)]at hc;cases hc
   ·cases hc
 ·have:=hv _ rfl;cases this;exact⟨none,0,0,rfl,fun a e=>by cases e⟩
 ·exact h.elim
theorem ag_{c:Call}{f:Operand}{gf:FuncId}(ho:o.op= .call c)(hc:c.callee= .value f)(hf:(bH st.sl f).nm= .p (.fn (.func gf) []))(h:HX P gf){id of n s:Nat}{m:Option Nat}{y:AV}{ob:Ob}(ha:c.args.toList.map (bH st.sl)=[.view id of n s m,y]\/c.args.toList.map (bH st.sl)=[y,.view id of n s m])(hl:lk id st.tb.bx=some ob)(hsz:ob.sz=s)(hs:0<s)(Ci:ob.el<frM)(hy:qX y.nm):dx P st o (.p (.bool false)) st.tb:=bQ fun w0 M0 F g a w hw hop=>by
 have h1:=bU (hop f (by rw[ho];simp[Op.operands,Call.operands,hc]));rw[hf]at h1;have gD:=bf h1;generalize hv:a.eval f=v at gD;cases gD with
 |fn mq=>
  cases mq;obtain⟨fn,tS,tR,e,f1,f2,f3,f4,f5,f6,f7⟩:=h;obtain⟨sz,O1⟩:=Option.isSome_iff_exists.1 f7;have hargs:=iK (g:=g) (a:=a) (sl:=st.sl) c.args.toList (fun y hy=>hop y (by rw[ho];simp[Op.operands,Call.operands,hc];exact Or.inr (by simpa using hy)));have core:∀(u v:Value),aZ g u (.view id of n s m)->aZ g v y->(Extern.SlicesOverlaps.overlaps #[tS,tS] #[tR] #[u,v]).run P w= .ok (.bool false) w/\(Extern.SlicesOverlaps.overlaps #[tS,tS] #[tR] #[v,u]).run P w= .ok (.bool false) w:=by
   intro u v hu hv;obtain⟨ad,k,cap,rfl,amW⟩:=QX (w:=w) (M:=g.M) (y:=y.nm) hw.holds (fun x e=>by have:=bU hv;rw[e]at this;exact bf this) hy;cases hu with
   |view e3 h3 h4 h5 hm=>
    rename_i b cc au;have Ui:=fun(a b:Option Addr) (la ca lb cb:Nat) (h:a=none\/b=none\/la=0\/lb=0)=>LU (P:=P) w tS tR e f6 sz (fun w=>run_sizeOf O1 w) a b la ca lb cb h;cases au with
    |none=>exact⟨Ui _ _ _ _ _ _ (.inl rfl),Ui _ _ _ _ _ _ (.inr (.inl rfl))⟩
    |some au=>
    cases ad with
    |none=>exact⟨Ui _ _ _ _ _ _ (.inr (.inl rfl)),Ui _ _ _ _ _ _ (.inl rfl)⟩
    |some ad=>
    by_cases hn0:n=0
    ·exact⟨Ui _ _ _ _ _ _ (.inr (.inr (.inl hn0))),Ui _ _ _ _ _ _ (.inr (.inr (.inr hn0)))⟩
    by_cases DB:k=0
    ·exact⟨Ui _ _ _ _ _ _ (.inr (.inr (.inr DB))),Ui _ _ _ _ _ _ (.inr (.inr (.inl DB)))⟩
    obtain⟨⟨tB,kB,q1,q2⟩,o',u',q3⟩:=amW ad rfl (by omega);cases h5 with
    |void hz _=>omega
    |real off gH had h5=>
    injection had with had;subst had;obtain⟨cur,p2,p3,⟨tt,fz,p4,fo⟩,p5,p6,p7,p8,p9⟩:=(hw.boxes id ob hl).real e3 gH;obtain⟨rfl,rfl⟩:=fo.low Ci;have hne:b≠ad.block:=fun hh=>by rw[<-hh,p3]at q3;cases q3
    have LV:w.shape? b=some (ob.el,cur.size):=by unfold World.shape?;rw[p4]
    have hk:cur.size≠0:=Nat.ne_of_gt (Nat.lt_of_lt_of_le (by rw[hsz];exact Nat.mul_pos gH hs) p5);have hfz:∀o,w.frozen? ⟨b,o,none⟩=false:=fun o=>by unfold World.frozen?;rw[p4];simp
    exact⟨Ge w tS tR e f6 sz (fun w=>run_sizeOf O1 w) ⟨b,off,none⟩ ad _ _ _ _ hne _ _ _ _ LV q1 hk q2 (.inl ⟨hfz _,hfz _⟩),Ge w tS tR e f6 sz (fun w=>run_sizeOf O1 w) ad ⟨b,off,none⟩ _ _ _ _ (Ne.symm hne) _ _ _ _ q1 LV q2 hk (.inr ⟨hfz _,hfz _⟩)⟩
  refine⟨.bool false,w,g,?_,G.le_refl g,hw,.p (.sc _ rfl)⟩;have WZ:∃u v,(c.args.toList.map a.eval)=[u,v]/\(Extern.SlicesOverlaps.overlaps #[tS,tS] #[tR] #[u,v]).run P w= .ok (.bool false) w:=by
   rcases ha with ha|ha
   ·rw[ha]at hargs;generalize c.args.toList.map a.eval=l at hargs;cases hargs with|cons h1 hs=>cases hs with|cons h2 hs=>cases hs;exact⟨_,_,rfl,(core _ _ h1 h2).1⟩
   ·rw[ha]at hargs;generalize c.args.toList.map a.eval=l at hargs;cases hargs with|cons h1 hs=>cases hs with|cons h2 hs=>cases hs;exact⟨_,_,rfl,(core _ _ h2 h1).2⟩
  obtain⟨u,v',G6,hrun⟩:=WZ;have W0:c.args.map a.eval=#[u,v']:=by
   apply Array.ext';simpa using G6
  have rQ:=run_callFunc_extern f1 f2 f3 f4 f5 #[u,v'] w;rw[hrun]at rQ;simp[execOp,ho,resolve,hc,hv,Deferred.ofValue,invoke,W0,rQ]
def P0(P:Program)(gf:FuncId)(xs:List PC)(r:PC):Prop:=∃fn e,P.funcs[gf]?=some fn/\(fn.name=="runtime.NumGoroutine")=false/\fn.body.isNone=true/\Extern.findNext fn=none/\Extern.find fn=some e/\∀(M:Mem) (w:World) (vs:List Value),fT w M->cP M vs xs->∃v,(e vs.toArray).run P w= .ok v w/\gB M v r
def amX(P:Program)(gf:FuncId)(args:List AV)(tb:Tb)(k:AV->Tb->Prop):Prop:=∃xs r,dR (args.map AV.nm)=some xs/\P0 P gf xs r/\k (.p r) tb
theorem ag'{c:Call}{f:Operand}{gf:FuncId}{xs:List PC}{r:PC}(ho:o.op= .call c)(hc:c.callee= .value f)(hf:(bH st.sl f).nm= .p (.fn (.func gf) []))(h:P0 P gf xs r)(hx:dR (c.args.toList.map fun y=>(bH st.sl y).nm)=some xs):dx P st o (.p r) st.tb:=bQ fun w0 M0 F g a w hw hop=>by
 have ox:∀y,y∈o.op.operands->aZ g (a.eval y) ((bH st.sl y).nm):=fun y hy=>bU (hop y hy);have h1:=ox f (by rw[ho];simp[Op.operands,Call.operands,hc]);rw[hf]at h1;have gD:=bf h1;generalize hv:a.eval f=v at gD;cases gD with
 |fn mq=>
  cases mq;obtain⟨fn,e,f1,f2,f3,f4,f5,f6⟩:=h;have hargs:=kJ (g:=g) (a:=a) c.args.toList xs (fun y hy=>ox y (by rw[ho];simp[Op.operands,Call.operands,hc];exact Or.inr (by simpa using hy))) hx;obtain⟨v,hrun,hr⟩:=f6 g.M w _ hw.holds hargs;refine⟨v,w,g,?_,G.le_refl g,hw,.p hr⟩;have W0:c.args.map a.eval=(c.args.toList.map a.eval).toArray:=by
   apply Array.ext';simp
  have rQ:=run_callFunc_extern f1 f2 f3 f4 f5 (c.args.toList.map a.eval).toArray w;rw[hrun]at rQ;rw[<-W0]at rQ;simp[execOp,ho,resolve,hc,hv,Deferred.ofValue,invoke,rQ]
def aha(P:Program)(gf:FuncId)(args:List AV)(tb:Tb)(k:AV->Tb->Prop):Prop:=amV P gf args tb k\/amX P gf args tb k
theorem H9{s d e:TypeId}{x:Operand}{b:ByteArray}{bV:Nat}(ho:o.op= .convert s d x)(hx:(bH st.sl x).nm= .p (.sc (.string b)))(hs:isStr P s=true)(hd:dL P d=true)(hel:cV P d=some (e,1,bV))(hl:(bs b).length<=9223372036854775807):dx P st o (.view st.tb.nx 0 (bs b).length 1 none) (st.tb.aT ⟨e+1000000,1,(ah (bs b)).map .p⟩):=bQ fun w0 M0 F g a w hw h=>by
 have e1:=bU (h x (by simp[ho,Op.operands]));rw[hx]at e1;have e1:=bI e1;obtain⟨e',yu,BZ⟩:=mA hd;obtain⟨hU,_⟩:=fk hel;rw[hU]at yu;injection yu with yu;injection yu with yu;subst yu;have hr:=run_bytes_of_string (P:=P) w s d e b (jW hs) hU BZ;have hl':=hl;rw[kE]at hl';have hcap:=grownCap_ge w b.size 0 e;have y_:=grownCap_le_maxLen w b.size 0 e (by unfold maxLen;omega);have Du:aR w0 M0 F st.tb g w.drew:=hw.drew;generalize grownCap w b.size 0 e=cap at hr hcap y_;have hlen:(bs b).length=b.size:=kE b;have hB:Below w.drew.heap.size w.drew (w.drew.alloc (.cells (bytesRow b cap) e ((bytesRow b cap).size,(bytesRow b cap).size+1))):=(Below.refl _ _).alloc (Nat.le_refl _) _;have hrow:(bytesRow b cap).toList.take (bs b).length=(bs b).map fun b=>Value.int .u8 b.toNat:=by
  unfold bytesRow;rw[Array.toList_append,List.take_append_of_le_length (by simp[hlen])];rw[List.take_of_length_le (by simp[hlen])];simp[bs]
 have key:=Du.J5 (o:=⟨e+1000000,1,(ah (bs b)).map .p⟩) (cur:=bytesRow b cap) (c:=cap) hB ⟨e,((bytesRow b cap).size,(bytesRow b cap).size+1),heap_alloc_new w.drew _,.inr ⟨rfl,Nat.le_refl _⟩⟩ (by simp[bytesRow];omega) y_ (by simp[bytesRow,ah,hlen]) (by
  have e2:((ah (bs b)).map AV.p).length=(bs b).length:=by simp[ah]
  rw[e2,hrow];exact ja (jq _ _)) (by intro v hv;unfold bytesRow at hv;simp at hv;rcases hv with⟨_,_,rfl⟩|⟨_,rfl⟩<;>rfl)
 refine⟨.slice (some ⟨w.heap.size,0,none⟩) b.size cap,_,_,?_,Du.kF _ _,key,?_⟩
 ·simp only[execOp,ho,e1,Sem.run_bind,hr];rfl
 ·have:=aZ.view (g:=g.di st.tb.nx w.heap.size cap) (id:=st.tb.nx) (b:=w.heap.size) (c:=cap) (o:=0) (n:=b.size) (s:=1) (a:=some ⟨w.heap.size,0,none⟩) (by simp[G.di]) (by omega) y_ (by
   rcases Nat.eq_zero_or_pos cap with h0|h0
   ·exact .void h0 (.inr ⟨_,rfl⟩)
   ·exact .real 0 h0 rfl (fun _=>by simp)) (m:=none) (fun k hk=>by cases hk)
  rw[hlen];simpa using this
theorem LW{d:TypeId}{x:Operand}{id f n z:Nat}{m:Option Nat}{ob:Ob}(ho:o.op= .convert d d x)(hx:bH st.sl x= .view id f n z m)(hd:dL P d=true)(hl:lk id st.tb.bx=some ob)(hel:ob.el<frM)(hne:0<ob.xs.length)(hn:0<n):dx P st o (.view id f n z m) (st.tb.aQ id {ob with el:=ob.el+1000000}):=bQ fun w0 M0 F g a w hw h=>by
 have h1:=h x (by simp[ho,Op.operands]);rw[hx]at h1;obtain⟨e,yu,BZ⟩:=mA hd;generalize hv:a.eval x=v at h1;have xw:=h1;cases h1 with
 |view e3 h3 h4 h5 hm=>
  rename_i b c au;have gH:0<c:=by omega
  cases h5 with
  |void hz _=>omega
  |real off _ had h5=>
  subst had;obtain⟨cur,p2,p3,⟨tt,fz,p4,fo⟩,p5,p6,p7,p8,p9⟩:=(hw.boxes id ob hl).real e3 gH;obtain⟨rfl,rfl⟩:=fo.low hel;have hsh:w.shape? b=some (ob.el,cur.size):=by unfold World.shape?;rw[p4]
  have hfz:(w.freeze ⟨b,cur.size,none⟩ 1).heap[b]?=some (.cells cur ob.el (cur.size,cur.size+1)):=by
   unfold World.freeze;rw[if_neg (by decide)];simp only[Array.getElem?_modify,if_true,p4];rfl
  have key:=hw.Ty (w':=w.freeze ⟨b,cur.size,none⟩ 1) (o':={ob with el:=ob.el+1000000}) hl e3 gH p4 (by unfold World.freeze;rw[if_neg (by decide)]) (by unfold World.freeze;rw[if_neg (by decide)]) (by unfold World.freeze;rw[if_neg (by decide)]) (by unfold World.freeze;rw[if_neg (by decide)];simp) (fun k hk=>by unfold World.freeze;rw[if_neg (by decide)];simp only[Array.getElem?_modify];rw[if_neg (Ne.symm hk)]) hfz rfl (fun _=> .inr ⟨rfl,Nat.le_refl _⟩) rfl p7 p8 p9;refine⟨_,_,g,?_,G.le_refl g,key,xw⟩;simp[execOp,ho,hv,convert,run_underlying yu,run_underlying BZ,markStringish,hsh]
theorem Cj{P:Program}{s d:TypeId}{v:Value}{l:List UInt8}{M:Mem}{w:World}(hH:fT w M)(h:gB M v (.sl (ah l)))(hs:dL P s=true)(hd:isStr P d=true):(convert s d v).run P w= .ok (vM l) w:=by
 obtain⟨e,yu,BZ⟩:=mA hs;generalize hz:ah l=zs at h;cases h with
 |dg=>
  have:l=[]:=by cases l<;>simp_all [ah]
  subst this;have hr:=run_convert_bytes_string (P:=P) w s d e none 0 0 yu BZ (jW hd);rw[hr];rfl
 |p_ ad=>
  have:l=[]:=by cases l<;>simp_all [ah]
  subst this;have hr:=run_convert_bytes_string (P:=P) w s d e (some ad) 0 0 yu BZ (jW hd);rw[hr];rfl
 |sl hn hc hm hsz hu h1c dS oe=>
  rename_i b off n cap sz us;subst hz;have nw:=iX l oe;subst nw;rw[gi]at dS;have hn':n=l.length:=by simpa using hn.symm
  subst hn';have hr:=run_convert_bytes_back (P:=P) w s d e ⟨b,off,none⟩ cap l yu BZ (jW hd) (fun j hj=>by
   rw[Addr.add_lit];exact hH _ _ _ (dS j _ (by simp[hj])))
  rw[hr]
theorem LX{s d:TypeId}{x:Operand}{id f n z:Nat}{m:Option Nat}{l:List UInt8}(ho:o.op= .convert s d x)(hx:bH st.sl x= .view id f n z m)(hs:dL P s=true)(hd:isStr P d=true)(hb:cQ st.tb.bx 1 (.view id f n z m) (.sl (ah l))):dx P st o (.p (.str l)) st.tb:=bQ fun w0 M0 F g a w hw h=>by
 have h1:=h x (by simp[ho,Op.operands]);rw[hx]at h1;have hr:=tM hw (rY hw.holds) (fun _ _ _ _ _ _ _ _ _ h=>h) 1 _ _ _ h1 hb;have hc:=Cj (P:=P) (uJ hw.holds) hr hs hd;exact⟨vM l,w,g,by simp only[execOp,ho,Sem.run_bind,hc];rfl,G.le_refl g,hw,.p (.sc _ rfl)⟩
end
end Go.Av
