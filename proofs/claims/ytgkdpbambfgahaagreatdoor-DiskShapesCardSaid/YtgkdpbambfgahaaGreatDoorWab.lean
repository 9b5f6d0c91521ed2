/- DiskShapes, part 2: an abstract interpreter over any program's form, with its proof of soundness; no condition. -/
import Derived.Test.YtgkdpbambfgahaaGreatDoorWaa
import Derived.Laws.IdiomStrings
set_option linter.all false
set_option maxRecDepth 100000
set_option maxHeartbeats 64000000
namespace Go.Av
open Go.RowKit
section
variable{P:Program}{sl:Nat->AV}{o:Oper}
theorem Af(c:IntKind)(n:Int)(w:World):(Op.unary .neg (.int c n)).run P w= .ok (.int c (c.wrap (0-n))) w:=by simp[Op.unary,Op.intArith]
theorem acY{t:TypeId}{x:Operand}{b:Bool}(ho:o.op= .unOp .not t x)(hx:(bE sl x).nm= .p (.sc (.bool b))):cP P sl o (.p (.bool !b)):=bH fun w0 M0 F tb g a w hw h=>by
 have e1:=h x (by simp[ho,Op.operands]);rw[hx]at e1;have e1:=bF e1;exact⟨.bool !b,by simp[execOp,ho,e1,Op.unary],.p (.sc _ rfl)⟩
theorem acZ{t:TypeId}{x:Operand}{c:IntKind}{n:Int}(ho:o.op= .unOp .neg t x)(hx:(bE sl x).nm= .p (.sc (.int c n))):cP P sl o (.p (.sc (.int c (c.wrap (0-n))))):=bH fun w0 M0 F tb g a w hw h=>by
 have e1:=h x (by simp[ho,Op.operands]);rw[hx]at e1;have e1:=bF e1;have:=Af (P:=P) c n w;exact⟨.int c (c.wrap (0-n)),by simp only[execOp,ho,e1,Sem.run_bind,this];rfl,.p (.sc _ rfl)⟩
theorem Ag(c:IntKind)(n:Int)(w:World):(Op.unary .xor (.int c n)).run P w= .ok (.int c (bits .xor c (if c.signed then-1 else c.max) n)) w:=by simp[Op.unary,Op.intBits,bits]
theorem ac0{t:TypeId}{x:Operand}{c:IntKind}{n:Int}(ho:o.op= .unOp .xor t x)(hx:(bE sl x).nm= .p (.sc (.int c n))):cP P sl o (.p (.sc (.int c (bits .xor c (if c.signed then-1 else c.max) n)))):=bH fun w0 M0 F tb g a w hw h=>by
 have e1:=h x (by simp[ho,Op.operands]);rw[hx]at e1;have e1:=bF e1;have:=Ag (P:=P) c n w;exact⟨.int c (bits .xor c (if c.signed then-1 else c.max) n),by simp only[execOp,ho,e1,Sem.run_bind,this];rfl,.p (.sc _ rfl)⟩
theorem B9{t:TypeId}(h:Av.isSome P t=true):∃d,P.underlying t=some d:=Option.isSome_iff_exists.1 h
theorem Rh{s d:TypeId}{x:Operand}{c c':IntKind}{n:Int}(ho:o.op= .convert s d x)(hx:(bE sl x).nm= .p (.sc (.int c' n)))(hs:Av.isSome P s=true)(hd:Av.intOf P d=some c):cP P sl o (.p (.sc (.int c (c.wrap n)))):=bH fun w0 M0 F tb g a w hw h=>by
 have e1:=h x (by simp[ho,Op.operands]);rw[hx]at e1;have e1:=bF e1;obtain⟨u,hu⟩:=B9 hs;have hd':P.underlying d=some (.int c):=by
  unfold Av.intOf at hd;split at hd
  ·injection hd with hd;subst hd;assumption
  ·cases hd
 exact⟨.int c (c.wrap n),by simp[execOp,ho,e1,convert,run_underlying hu,run_underlying hd',Conv.intToInt],.p (.sc _ rfl)⟩
theorem lF{t:TypeId}(h:isStr P t=true):P.underlying t=some .string:=by
 unfold isStr at h;split at h
 ·assumption
 ·cases h
theorem oo{t:TypeId}(h:dR P t=true):∃e,P.underlying t=some (.slice e)/\P.underlying e=some (.int .u8):=by
 unfold dR at h;split at h
 ·rename_i e he;split at h
  ·rename_i h2;exact⟨e,he,h2⟩
  ·cases h
 ·cases h
theorem Mw{s d:TypeId}{x:Operand}{b:ByteArray}(ho:o.op= .convert s d x)(hx:(bE sl x).nm= .p (.sc (.string b)))(hs:Av.isSome P s=true)(hd:isStr P d=true):cP P sl o (.p (.str (bs b))):=bH fun w0 M0 F tb g a w hw h=>by
 have e1:=h x (by simp[ho,Op.operands]);rw[hx]at e1;have e1:=bF e1;obtain⟨u,hu⟩:=B9 hs;refine⟨.string b,by simp[execOp,ho,e1,convert,run_underlying hu,run_underlying (lF hd)],?_⟩;unfold PC.str;rw[BI];exact .p (.sc _ rfl)
theorem kK(M:Mem):∀(l:List UInt8),cJ M (l.map fun b=>Value.int .u8 b.toNat) (af l)
 |[]=> .nil
 |b::l=> .cons (.sc _ rfl) (kK M l)
theorem jW{M:Mem}:∀(l:List UInt8) {us:List Value},cJ M us (af l)->us=l.map fun b=>Value.int .u8 b.toNat
 |[],_,h=>by cases h;rfl
 |b::l,_,h=>by
  cases h with
  |cons hr hs=>cases hr;rw[jW l hs];rfl
theorem gL:∀(l:List UInt8),cellsOf (l.map fun b=>Value.int .u8 b.toNat)=l.map fun b=>Value.int .u8 b.toNat
 |[]=>rfl
 |b::l=>by
  have:=gL l;simp only[cellsOf,List.map_cons,List.flatMap_cons]at this⊢;rw[this];simp[Value.cells]
theorem Mx{s d:TypeId}{x:Operand}{b:ByteArray}(ho:o.op= .convert s d x)(hx:(bE sl x).nm= .p (.sc (.string b)))(hs:isStr P s=true)(hd:dR P d=true)(hl:(bs b).length<=9223372036854775807):cP P sl o (.p (.sl (af (bs b)))):=B6 fun w0 M0 F tb g a w hw h=>by
 have e1:=h x (by simp[ho,Op.operands]);rw[hx]at e1;have e1:=bF e1;obtain⟨e,zY,DL⟩:=oo hd;have hr:=run_bytes_of_string (P:=P) w s d e b (lF hs) zY DL;rw[mA]at hl;have hcap:=grownCap_ge w b.size 0 e;have AU:=grownCap_le_maxLen w b.size 0 e (by unfold maxLen;omega);have hwd:aQ w0 M0 F tb g w.drew:=hw.drew;generalize grownCap w b.size 0 e=cap at hr hcap AU;obtain⟨m1,m2,m3,m4,m5⟩:=B5 hwd (bytesRow b cap).toList e ((bytesRow b cap).size,(bytesRow b cap).size+1);have hat:At (g.M.ext w.drew.heap.size (bytesRow b cap).toList) w.drew.heap.size 0 (cellsOf ((bs b).map fun b=>Value.int .u8 b.toNat)):=fun j v hj=>by
  refine m5 j v ?_;rw[gL]at hj;have hj':j<b.size:=by have:=(List.getElem?_eq_some_iff.1 hj).1;simpa[bs]using this
  unfold bytesRow;rw[Array.toList_append,List.getElem?_append_left (by simpa using hj')];simpa[bs]using hj
 refine⟨.slice (some ⟨w.heap.size,0,none⟩) b.size cap,_,_,?_,m1,by simpa using m2,m3,((Below.refl _ w).drew).trans (by simpa using m4),.p (.sl (sz:=1) (by simp[bs]) hcap AU (by decide) (by simp[Value.cells]) (by rw[gL];simp[Value.oneCell']) hat (kK _ _))⟩;simp only[execOp,ho,e1,Sem.run_bind,hr];rfl
theorem My{s d:TypeId}{x:Operand}{l:List UInt8}(ho:o.op= .convert s d x)(hx:(bE sl x).nm= .p (.sl (af l)))(hs:dR P s=true)(hd:isStr P d=true):cP P sl o (.p (.str l)):=bH fun w0 M0 F tb g a w hw h=>by
 have h1:=h x (by simp[ho,Op.operands]);rw[hx]at h1;have gQ:=aZ h1;obtain⟨e,zY,DL⟩:=oo hs;generalize hv:a.eval x=v at gQ;generalize hz:af l=zs at gQ;refine⟨uN l,?_,.p (.sc _ rfl)⟩;cases gQ with
 |cX=>
  have:l=[]:=by cases l<;>simp_all [af]
  subst this;have hr:=run_convert_bytes_string (P:=P) w s d e none 0 0 zY DL (lF hd);simp only[execOp,ho,hv,Sem.run_bind,hr];rfl
 |rH ad=>
  have:l=[]:=by cases l<;>simp_all [af]
  subst this;have hr:=run_convert_bytes_string (P:=P) w s d e (some ad) 0 0 zY DL (lF hd);simp only[execOp,ho,hv,Sem.run_bind,hr];rfl
 |sl hn hc hm hsz hu h1c hat pY=>
  rename_i b off n cap sz us;subst hz;have pF:=jW l pY;subst pF;rw[gL]at hat;have hn':n=l.length:=by simpa using hn.symm
  subst hn';have hr:=run_convert_bytes_back (P:=P) w s d e ⟨b,off,none⟩ cap l zY DL (lF hd) (fun j hj=>by
   rw[Addr.add_lit];exact hw.holds _ _ _ (hat j _ (by simp[hj])))
  simp only[execOp,ho,hv,Sem.run_bind,hr];rfl
theorem Jq{s d:TypeId}{x:Operand}(ho:o.op= .convert s d x)(hx:(bE sl x).nm= .p .nil)(hs:dR P s=true)(hd:isStr P d=true):cP P sl o (.p (.str [])):=bH fun w0 M0 F tb g a w hw h=>by
 have h1:=h x (by simp[ho,Op.operands]);rw[hx]at h1;have gQ:=aZ h1;obtain⟨e,zY,DL⟩:=oo hs;generalize hv:a.eval x=v at gQ;cases gQ;have hr:=run_convert_bytes_string (P:=P) w s d e none 0 0 zY DL (lF hd);refine⟨uN [],?_,.p (.sc _ rfl)⟩;simp only[execOp,ho,hv,Sem.run_bind,hr];rfl
theorem Ri{t:TypeId}{x:Operand}{v:Value}(ho:o.op= .makeInterface t x)(hx:(bE sl x).nm= .p (.sc v))(hs:Av.isSome P t=true)(hi:isIface P t=false):cP P sl o (.p (.sc (.iface t v))):=bH fun w0 M0 F tb g a w hw h=>by
 have e1:=h x (by simp[ho,Op.operands]);rw[hx]at e1;have e1:=bF e1;obtain⟨u,hu⟩:=B9 hs;refine⟨.iface t v,?_,.p (.sc _ rfl)⟩;have hr:(Instr.makeInterface t v).run P w= .ok (.iface t v) w:=by
  unfold Instr.makeInterface;simp only[Sem.run_bind,run_underlying hu,Result.andThen_ok];cases u<;>first|rfl|(unfold isIface at hi;rw[hu]at hi;simp at hi)
 simp only[execOp,ho,e1,Sem.run_bind,hr];rfl
theorem Mz{t:TypeId}{x:Operand}{id off:Nat}(ho:o.op= .makeInterface t x)(hx:bE sl x= .obj id off)(hs:Av.isSome P t=true)(hi:isIface P t=false):cP P sl o (.mW t (.obj id off)):=dx fun w0 M0 F tb g a w hw h=>by
 have e1:=h x (by simp[ho,Op.operands]);rw[hx]at e1;obtain⟨u,hu⟩:=B9 hs;refine⟨.iface t (a.eval x),?_,.mW e1⟩;have hr:(Instr.makeInterface t (a.eval x)).run P w= .ok (.iface t (a.eval x)) w:=by
  unfold Instr.makeInterface;simp only[Sem.run_bind,run_underlying hu,Result.andThen_ok];cases u<;>first|rfl|(unfold isIface at hi;rw[hu]at hi;simp at hi)
 simp only[execOp,ho,Sem.run_bind,hr];rfl
theorem mJ{g:G}{a:Act}:∀(l:List Operand) (xs:List PC),(∀y∈l,aX g (a.eval y) (bE sl y).nm)->dV (l.map fun y=>(bE sl y).nm)=some xs->cJ g.M (l.map a.eval) xs
 |[],xs,_,h=>by simp[dV]at h;subst h;exact .nil
 |y::l,xs,hr,h=>by
  have h1:=hr y (by simp);simp only[List.map_cons]at h⊢;cases he:(bE sl y).nm with
  |p x=>
   rw[he]at h h1;simp only[dV]at h;split at h
   ·rename_i r hr';injection h with h;subst h;exact .cons (aZ h1) (mJ l r (fun z hz=>hr z (by simp[hz])) hr')
   ·cases h
  |_=>rw[he]at h;simp[dV]at h
theorem aiJ{f:Fn}{cs:Array Operand}{xs:List PC}(ho:o.op= .makeFunc f #[] cs)(hx:dV (cs.toList.map fun y=>(bE sl y).nm)=some xs):cP P sl o (.p (.fn f xs)):=bH fun w0 M0 F tb g a w hw h=>by
 have:=mJ (g:=g) (a:=a) cs.toList xs (fun y hy=>h y (by rw[ho];simpa[Op.operands]using hy)) hx;refine⟨.func f #[] (cs.map a.eval),?_,?_⟩
 ·simp[execOp,ho,Instr.makeFunc]
 ·have e:(cs.map a.eval)=((cs.toList.map a.eval).toArray):=by rw[<-Array.toList_map,Array.toArray_toList]
  rw[e];exact .p (.fn this)
theorem tH{g:G}{a:Act}:∀(l:List Operand),(∀y∈l,aX g (a.eval y) (bE sl y))->aJ g (l.map a.eval) (l.map (bE sl))
 |[],_=> .nil
 |y::l,h=> .cons (h y (by simp)) (tH l fun z hz=>h z (by simp[hz]))
theorem ac1{f:Fn}{cs:Array Operand}(ho:o.op= .makeFunc f #[] cs):cP P sl o (.lJ f (cs.toList.map (bE sl))):=dx fun w0 M0 F tb g a w hw h=>by
 have:=tH (g:=g) (a:=a) cs.toList (fun y hy=>h y (by rw[ho];simpa[Op.operands]using hy));refine⟨.func f #[] (cs.map a.eval),?_,?_⟩
 ·simp[execOp,ho,Instr.makeFunc]
 ·have e:(cs.map a.eval)=((cs.toList.map a.eval).toArray):=by rw[<-Array.toList_map,Array.toArray_toList]
  rw[e];exact .lJ this
theorem ac2{f:Fn}{fs:Array Operand}(ho:o.op= .makeFunc f fs #[]):cP P sl o (.mE f (fs.toList.map (bE sl))):=dx fun w0 M0 F tb g a w hw h=>by
 have:=tH (g:=g) (a:=a) fs.toList (fun y hy=>h y (by rw[ho];simpa[Op.operands]using hy));refine⟨.func f (fs.map a.eval) #[],?_,?_⟩
 ·simp[execOp,ho,Instr.makeFunc]
 ·have e:(fs.map a.eval)=((fs.toList.map a.eval).toArray):=by rw[<-Array.toList_map,Array.toArray_toList]
  rw[e];exact .mE this
theorem Js{x:Operand}{i:Nat}{xs:List PC}{y:PC}(ho:o.op= .extract x i)(hx:(bE sl x).nm= .p (.agg true xs))(hy:xs[i]?=some y):cP P sl o (.p y):=bH fun w0 M0 F tb g a w hw h=>by
 have h1:=h x (by simp[ho,Op.operands]);rw[hx]at h1;have gQ:=aZ h1;generalize hv:a.eval x=v at gQ;cases gQ with
 |qi hs=>
  obtain⟨u,hu,hr⟩:=hs.get hy;exact⟨u,by simp[execOp,ho,hv,Instr.extract,hu],.p hr⟩
theorem wo{M:Mem}:∀{us:List Value} {xs:List PC},cJ M us xs->(∀y∈xs,y.plain=true)->cellsOf us=us/\∀u∈us,u.oneCell'=true
 |_,_,.nil,_=>⟨rfl,by simp⟩
 |_,_,.cons (v:=v) (vs:=vs) h hs,hp=>by
  obtain⟨e1,e2⟩:=iI h (hp _ (by simp));obtain⟨k1,k2⟩:=wo hs (fun y hy=>hp y (by simp[hy]));refine⟨?_,fun u hu=>?_⟩
  ·simp only[cellsOf,List.flatMap_cons]at k1⊢;rw[k1,e1];rfl
  ·rcases List.mem_cons.1 hu with rfl|hu
   ·exact e2
   ·exact k2 u hu
theorem ac3{t:TypeId}{x:Operand}{xs:List PC}{m:Nat}{ag:Bool}(ho:o.op= .sliceToArrayPointer t x)(hx:(bE sl x).nm= .p (.sl xs))(hA:ic P t=some (m,1,ag))(h0:0<m)(hm:m<=xs.length)(hp:∀y∈xs,y.plain=true):cP P sl o (.p (.ref (.agg false (xs.take m)))):=bH fun w0 M0 F tb g a w hw h=>by
 have h1:=h x (by simp[ho,Op.operands]);rw[hx]at h1;have gQ:=aZ h1;generalize hv:a.eval x=v at gQ;unfold ic at hA;split at hA
 ·rename_i m' el hU;split at hA
  ·rename_i s' a' hs' Jl;injection hA with hA;obtain⟨rfl,rfl,rfl⟩:=by simpa using hA
   cases gQ with
   |cX=>simp at hm;omega
   |rH ad=>simp at hm;omega
   |sl hn hc hmx hsz hu hone hat hs=>
    rename_i b off n cap sz us;obtain⟨k1,k2⟩:=wo hs hp;have hl:=hs.length;refine⟨.pointer (some ⟨b,off,none⟩),?_,.p (.ref (u:= .agg (us.take m').toArray) (fun j v e=>?_) (.agg (hs.take m') (fun v hv=>k2 v (jH hv))))⟩
    ·simp[execOp,ho,hv,Instr.arrayAt,run_underlying hU,show¬n<m' by omega]
    ·rw[k1]at hat;simp only[Value.cells]at e;rw[List.getElem?_take]at e;split at e
     ·exact hat j v e
     ·cases e
  ·cases hA
 ·cases hA
theorem Wn{x:Operand}{y:PC}(ho:o.op= .nilCheck x)(hx:(bE sl x).nm= .p (.ref y)):cP P sl o (.p (.ref y)):=bH fun w0 M0 F tb g a w hw h=>by
 have h1:=h x (by simp[ho,Op.operands]);rw[hx]at h1;have gQ:=aZ h1;generalize hv:a.eval x=v at gQ;refine⟨v,?_,.p gQ⟩;cases gQ;simp[execOp,ho,hv]
theorem Wo{x:Operand}{f:FuncId}{ys:List PC}(ho:o.op= .nilCheck x)(hx:(bE sl x).nm= .p (.fn (.func f) ys)):cP P sl o (.p (.fn (.func f) ys)):=bH fun w0 M0 F tb g a w hw h=>by
 have h1:=h x (by simp[ho,Op.operands]);rw[hx]at h1;have gQ:=aZ h1;generalize hv:a.eval x=v at gQ;refine⟨v,?_,.p gQ⟩;cases gQ;simp[execOp,ho,hv]
end
theorem Re{M:Mem}{v:Value}{x:PC}(h:gO M v x):gO M v x.Qs:=by
 unfold PC.Qs;split
 ·cases h;exact .cX
 ·exact h
theorem ym{M:Mem}:∀{vs:List Value} {xs:List PC},cJ M vs xs->cJ M vs (xs.map PC.Qs)
 |_,_,.nil=> .nil
 |_,_,.cons h hs=> .cons (Re h) (ym hs)
theorem FW{M:Mem}{v:Value}{x:PC}(h:gO M v x):gO M v x.wk:=by
 unfold PC.wk;split
 ·cases h;exact .cX
 ·cases h with
  |agg hs h1=>exact .agg (ym hs) h1
  |qi hs=>exact .qi (ym hs)
 ·exact h
theorem HG{M:Mem}:∀{vs:List Value} {xs:List PC},cJ M vs xs->cJ M vs (xs.map PC.wk)
 |_,_,.nil=> .nil
 |_,_,.cons h hs=> .cons (FW h) (HG hs)
section
variable{P:Program}{sl:Nat->AV}{o:Oper}
theorem nu{α:Type}{a:Array α}(h:a.size=1)(d:α):a=#[a.getD 0 d]:=by
 match a,h with
 |⟨[x]⟩,_=>rfl
theorem acS{c:Call}(ho:o.op= .call c)(hc:c.callee= .builtin .len)(h1:c.args.size=1)(h2:c.argTypes.size=1){k:AV->Prop}(hk:uX P (c.argTypes.getD 0 0) k (bE sl (c.args.getD 0 (.tmp 0))).nm):∃x,k x/\cP P sl o x:=by
 have ea:=nu h1 (.tmp 0);have et:=nu h2 0;generalize c.args.getD 0 (.tmp 0)=x at*;generalize c.argTypes.getD 0 0=t at*;have run:∀(a:Act) (w:World),(execOp a.eval o).run P w=((Builtin.len_ #[t] o.type #[a.eval x]).run P w).andThen fun v w=> .ok (.value v) w:=fun a w=>by
  simp only[execOp,ho,resolve,hc,ea,et,Sem.run_bind,Sem.run_pure,Result.andThen_ok,invoke,builtin,List.map_toArray,List.map_cons,List.map_nil]
 have hop:x∈o.op.operands:=by rw[ho];simp[Op.operands,Call.operands,hc,ea]
 have Ms:∀{v:Value} {M:Mem} {xs:List PC},gO M v (.sl xs)->∃a n c,v= .slice a n c/\n=xs.length:=fun h=>by
  cases h with
  |cX=>exact⟨_,_,_,rfl,rfl⟩
  |rH a=>exact⟨_,_,_,rfl,rfl⟩
  |sl hn hc hm hsz hu h1c hat pY=>exact⟨_,_,_,rfl,by rw[<-hn,pY.length]⟩
 have Mt:∀(a:Option Addr) (n c:Nat) (w:World),(aH P t).isSome=true->(Builtin.len_ #[t] o.type #[.slice a n c]).run P w= .ok (.int .i64 n) w:=fun a n c w h=>by
  obtain⟨s,hs⟩:=Option.isSome_iff_exists.1 h;unfold aH at hs;split at hs
  ·rename_i e hU;simp[Builtin.len_,run_underlying hU,goInt]
  ·cases hs
 unfold uX at hk;split at hk
 ·rename_i s hx;refine⟨_,hk.2,bH fun w0 M0 F tb g a w hw h=>?_⟩;have e1:=h x hop;rw[hx]at e1;have e1:=bF e1;refine⟨.int .i64 (bs s).length,?_,.p (.sc _ rfl)⟩;rw[run,e1,mA];simp[Builtin.len_,run_underlying (lF hk.1),goInt]
 ·rename_i hx;refine⟨_,hk.2,bH fun w0 M0 F tb g a w hw h=>?_⟩;have e1:=h x hop;rw[hx]at e1;have e1:=aZ e1;refine⟨.int .i64 0,?_,.p (.sc _ rfl)⟩;rw[run];generalize a.eval x=v at e1;cases e1;rw[Mt _ _ _ _ hk.1];rfl
 ·rename_i xs hx;refine⟨_,hk.2,bH fun w0 M0 F tb g a w hw h=>?_⟩;have e1:=h x hop;rw[hx]at e1;obtain⟨ad,n,c,e2,e3⟩:=Ms (aZ e1);refine⟨.int .i64 xs.length,?_,.p (.sc _ rfl)⟩;rw[run,e2,Mt _ _ _ _ hk.1,e3];rfl
 ·exact hk.elim
theorem Dv{α β:Type}{f:α->β}{a:List α}{u v:β}(h:a.map f=[u,v]):∃x y,a=[x,y]/\f x=u/\f y=v:=by
 match a,h with
 |[x,y],h=>simp at h;exact⟨x,y,rfl,h.1,h.2⟩
theorem acT{c:Call}{kd:IntKind}{m n:Int}(ho:o.op= .call c)(hc:c.callee= .builtin .min)(ha:c.args.toList.map (fun y=>(bE sl y).nm)=[.p (.sc (.int kd m)),.p (.sc (.int kd n))]):cP P sl o (.p (.sc (.int kd (if n<m then n else m)))):=by
 obtain⟨x,y,e,hx,hy⟩:=Dv ha;have ea:c.args=#[x,y]:=by rw[<-Array.toArray_toList (xs:=c.args),e]
 refine bH fun w0 M0 F tb g a w hw h=>?_;have e1:=h x (by rw[ho];simp[Op.operands,Call.operands,hc,ea]);rw[hx]at e1;have e2:=h y (by rw[ho];simp[Op.operands,Call.operands,hc,ea]);rw[hy]at e2;have e1:=bF e1;have e2:=bF e2;exact⟨.int kd (if n<m then n else m),by simp[execOp,ho,resolve,hc,ea,invoke,builtin,e1,e2,Builtin.min_,Builtin.min2],.p (.sc _ rfl)⟩
theorem acU{c:Call}{kd:IntKind}{m n:Int}(ho:o.op= .call c)(hc:c.callee= .builtin .max)(ha:c.args.toList.map (fun y=>(bE sl y).nm)=[.p (.sc (.int kd m)),.p (.sc (.int kd n))]):cP P sl o (.p (.sc (.int kd (if n>m then n else m)))):=by
 obtain⟨x,y,e,hx,hy⟩:=Dv ha;have ea:c.args=#[x,y]:=by rw[<-Array.toArray_toList (xs:=c.args),e]
 refine bH fun w0 M0 F tb g a w hw h=>?_;have e1:=h x (by rw[ho];simp[Op.operands,Call.operands,hc,ea]);rw[hx]at e1;have e2:=h y (by rw[ho];simp[Op.operands,Call.operands,hc,ea]);rw[hy]at e2;have e1:=bF e1;have e2:=bF e2;exact⟨.int kd (if n>m then n else m),by simp[execOp,ho,resolve,hc,ea,invoke,builtin,e1,e2,Builtin.max_,Builtin.max2],.p (.sc _ rfl)⟩
theorem gj{f:FuncId}(h:dP P f)(args:Array Value)(w:World):(callFunc f args).run P w= .ok (.enter f args) w:=by
 obtain⟨fn,h1,h2,h3⟩:=h;simp only[callFunc,Sem.run_bind,run_program,Result.andThen_ok,h1,h2,h3,Bool.false_eq_true,if_false];rfl
theorem Mu{c:Call}{f:Operand}{gf:FuncId}{caps xs:List PC}{r:PC}(ho:o.op= .call c)(hc:c.callee= .value f)(hf:(bE sl f).nm= .p (.fn (.func gf) caps))(hx:dV (c.args.toList.map fun y=>(bE sl y).nm)=some xs)(hp:aq P gf (xs.map PC.wk++caps) r):cP P sl o (.p r):=by
 intro w0 M0 F tb g a w hw hop K Q hK;have qj:∀y,y∈o.op.operands->aX g (a.eval y) ((bE sl y).nm):=fun y hy=>bP (iZ y fun t e=>hop t (e▸hy));have h1:=qj f (by rw[ho];simp[Op.operands,Call.operands,hc]);rw[hf]at h1;have gQ:=aZ h1;generalize hv:a.eval f=v at gQ;cases gQ with
 |fn og=>
  rename_i cv;have hargs:=mJ (g:=g) (a:=a) c.args.toList xs (fun y hy=>qj y (by rw[ho];simp[Op.operands,Call.operands,hc];exact Or.inr (by simpa using hy))) hx;have hall:=(HG hargs).append og;have e:(c.args.map a.eval)=(c.args.toList.map a.eval).toArray:=by rw[<-Array.toList_map,Array.toArray_toList]
  have hrun:(execOp a.eval o).run P w= .ok (.enter gf ((c.args.toList.map a.eval)++cv).toArray) w:=by
   simp[execOp,ho,resolve,hc,hv,Deferred.ofValue,invoke,gj hp.1]
  unfold Oper.wp;rw[hrun];refine(hp.2 g.M w _ hw.holds hall).mono ?_;rintro e' w' ⟨v',N,rfl,hr,hH,hM,hO,hB⟩;exact hK v' w' N hM (hw.later hM hH hO hB) (.p hr)
theorem nP{lo:Option AV}{d l:Nat}:pO d lo=some l->pP lo->match lo with|none=>l=d|some (.p (.sc (.int _ i)))=>i=(l:Int)|_=>False:=by
 intro h hc;unfold pO at h;split at h
 ·injection h with h;exact h.symm
 ·injection h with h;simp only[pP]at hc;first|omega|(simp only;omega)
 ·cases h
theorem acV{t:TypeId}{x:Operand}{i id off o' s:Nat}{ag:Bool}(ho:o.op= .fieldAddr t x i)(hx:bE sl x= .obj id off)(hf:di P t i=some (o',s,ag))(hs:s≠0):cP P sl o (.obj id (off+o')):=dx fun w0 M0 F tb g a w hw h=>by
 have h1:=h x (by simp[ho,Op.operands]);rw[hx]at h1;generalize hv:a.eval x=v at h1;cases h1 with
 |obj e=>
  rename_i b c;refine⟨.pointer (some ⟨b,off+o',none⟩),?_,.obj e⟩;unfold di at hf;split at hf
  ·rename_i fs hU;split at hf
   ·rename_i f FX;split at hf
    ·rename_i s' a' hs' Jl;injection hf with hf;obtain⟨rfl,rfl,rfl⟩:=by simpa using hf
     simp[execOp,ho,hv,Instr.fieldAt,run_underlying hU,FX,Instr.sureAddr,fieldPlace,run_sizeOf hs',hs,Addr.add_lit]
    ·cases hf
   ·cases hf
  ·cases hf
theorem acW{t:TypeId}{x i:Operand}{id off m s:Nat}{kd:IntKind}{n:Int}{ag:Bool}(ho:o.op= .indexAddr t x i)(hx:bE sl x= .obj id off)(hi:(bE sl i).nm= .p (.sc (.int kd n)))(hf:ic P t=some (m,s,ag))(h0:0<=n)(hn:n<(m:Int)):cP P sl o (.obj id (off+n.toNat*s)):=dx fun w0 M0 F tb g a w hw h=>by
 have h1:=h x (by simp[ho,Op.operands]);rw[hx]at h1;have h2:=bP (h i (by simp[ho,Op.operands]));rw[hi]at h2;have Ad:=aZ h2;generalize hv:a.eval x=v at h1;generalize yf:a.eval i=v2 at Ad;cases Ad;cases h1 with
 |obj e=>
  rename_i b c;refine⟨.pointer (some ⟨b,off+n.toNat*s,none⟩),?_,.obj e⟩;unfold ic at hf;split at hf
  ·rename_i m' e hU;split at hf
   ·rename_i s' a' hs' Jl;injection hf with hf;obtain⟨rfl,rfl,rfl⟩:=by simpa using hf
    simp[execOp,ho,hv,yf,Instr.indexAt,asIntOf,run_underlying hU,Instr.sureAddr,h0,hn,run_sizeOf hs',Addr.add_lit]
   ·cases hf
  ·cases hf
theorem tq{k:AV->Prop}(h:opW P o (bE sl) k):∃x,k x/\cP P sl o x:=by
 unfold opW Jo at h;split at h
 ·rename_i x ho;exact⟨_,h,Mv (.inl ho)⟩
 ·rename_i x ho;exact⟨_,h,Mv (.inr ho)⟩
 ·rename_i c x y ho;unfold tu at h;split at h
  ·rename_i t hc;exact⟨_,h,Wj ho hc⟩
  ·exact h.elim
 ·rename_i t x ho;unfold Jp at h;split at h
  ·rename_i y hx;exact⟨_,h,acX ho hx⟩
  ·exact h.elim
 ·rename_i t x ho;unfold vW at h;split at h
  ·rename_i y hx;exact⟨_,h.2,Wk ho hx h.1⟩
  ·exact h.elim
 ·rename_i t x i ho;unfold Uu at h;split at h
  ·rename_i id off hx;split at h
   ·rename_i o' s ag h1;exact⟨_,h.2,acV ho hx h1 h.1⟩
   ·exact h.elim
  ·unfold oO at h;split at h
   ·rename_i xs hx;split at h
    ·rename_i off s a h1;split at h
     ·rename_i y h2;exact⟨_,h.2,Dw ho hx h1 h2 h.1⟩
     ·exact h.elim
    ·exact h.elim
   ·exact h.elim
 ·rename_i t x i ho;unfold yo at h;split at h
  ·rename_i xs hx;split at h
   ·rename_i off s a h1;split at h
    ·rename_i y h2;exact⟨_,h,Rf ho hx h1 h2⟩
    ·exact h.elim
   ·exact h.elim
  ·exact h.elim
 ·rename_i t x i ho;unfold eY at h;split at h
  ·rename_i xs kd n hx hi;obtain⟨h0,h⟩:=h;split at h
   ·rename_i y hy;exact⟨_,h.2,Dx ho hx hi (by omega) hy h.1⟩
   ·exact h.elim
  ·rename_i xs kd n hx hi;split at h
   ·rename_i m s a hf;obtain⟨h0,hn,h⟩:=h;split at h
    ·rename_i y hy;exact⟨_,h,FY ho hx hi hf h0 hn hy⟩
    ·exact h.elim
   ·exact h.elim
  ·exact h.elim
 ·rename_i t x i ho;unfold sw at h;split at h
  ·rename_i s kd n hx hi;obtain⟨h0,h1,h⟩:=h;split at h
   ·rename_i c hc;exact⟨_,h,Rg ho hx hi (by omega) h1 hc⟩
   ·exact h.elim
  ·rename_i xs kd n hx hi;split at h
   ·rename_i m s a hf;obtain⟨h0,hn,h⟩:=h;split at h
    ·rename_i y hy;exact⟨_,h,FZ ho hx hi hf h0 hn hy⟩
    ·exact h.elim
   ·exact h.elim
  ·exact h.elim
 ·rename_i t x lo hi ho;unfold gR at h;split at h
  ·rename_i s hx;obtain⟨h1,h⟩:=h;unfold BW at h;split at h
   ·rename_i l hh e1 e2;obtain⟨c1,c2,h4,h5,h6⟩:=h;exact⟨_,h6,LO ho hx h1 (nP e1 c1) (nP e2 c2) h4 h5⟩
   ·exact h.elim
  ·rename_i xs hx;obtain⟨h1,hw,h⟩:=h;unfold BW at h;split at h
   ·rename_i l hh e1 e2;obtain⟨c1,c2,h4,h5,h6⟩:=h;exact⟨_,h6,LP ho hx h1 hw (nP e1 c1) (nP e2 c2) h4 h5⟩
   ·exact h.elim
  ·exact h.elim
 ·rename_i op t x y t' ho;unfold bC at h;split at h
  ·rename_i u v hx hy;obtain⟨r,h1,h2⟩:=QG (P:=P) ho hx hy h;exact⟨_,h1,h2⟩
  ·exact h.elim
 ·rename_i op t x ho;unfold tv at h;split at h
  ·rename_i b hx;obtain⟨rfl,h⟩:=h;exact⟨_,h,acY ho hx⟩
  ·rename_i c n hx;rcases h with⟨rfl,h⟩|⟨rfl,h⟩
   ·exact⟨_,h,acZ ho hx⟩
   ·exact⟨_,h,ac0 ho hx⟩
  ·exact h.elim
 ·rename_i s d x ho;unfold oh at h;split at h
  ·rename_i kd n hx;obtain⟨h1,h⟩:=h;split at h
   ·rename_i c h2;exact⟨_,h,Rh ho hx h1 h2⟩
   ·exact h.elim
  ·rename_i b hx;obtain⟨h1,h⟩:=h;split at h
   ·rename_i h2;exact⟨_,h,Mw ho hx h1 h2⟩
   ·obtain⟨h2,h3,h4,h5⟩:=h;exact⟨_,h5,Mx ho hx h3 h2 h4⟩
  ·rename_i hx;exact⟨_,h.2.2,Jq ho hx h.1 h.2.1⟩
  ·rename_i xs hx;obtain⟨h1,h2,l,rfl,h3⟩:=h;exact⟨_,h3,My ho hx h1 h2⟩
  ·exact h.elim
 ·rename_i t x ho;unfold sx at h;split at h
  ·rename_i id off hx;exact⟨_,h.2.2,Mz ho hx h.1 h.2.1⟩
  ·unfold MA at h;split at h
   ·rename_i v hx;exact⟨_,h.2.2,Ri ho hx h.1 h.2.1⟩
   ·exact h.elim
 ·rename_i f fs cs ho;rcases h with⟨rfl,h⟩|⟨_,rfl,h⟩
  ·unfold Wm at h;split at h
   ·rename_i xs h1;exact⟨_,h,aiJ ho h1⟩
   ·exact⟨_,h,ac1 ho⟩
  ·exact⟨_,h,ac2 ho⟩
 ·rename_i x i ho;unfold ql at h;split at h
  ·rename_i xs hx;split at h
   ·rename_i y h1;exact⟨_,h,Js ho hx h1⟩
   ·exact h.elim
  ·exact h.elim
 ·rename_i x ho;unfold MB at h;split at h
  ·rename_i y hx;exact⟨_,h,Wn ho hx⟩
  ·rename_i f ys hx;exact⟨_,h,Wo ho hx⟩
  ·exact h.elim
 ·rename_i t x ho;unfold saW at h;split at h
  ·rename_i xs hx;unfold saA at h;split at h
   ·rename_i m s ag hA;obtain⟨rfl,h1,h2,h3,h⟩:=h;exact⟨_,h,ac3 ho hx hA h1 h2 h3⟩
   ·exact h.elim
  ·exact h.elim
 ·rename_i c ho;split at h
  ·rename_i hc;obtain⟨h1,h2,h⟩:=h;exact acS ho hc h1 h2 h
  ·rename_i hc;unfold F0 at h;split at h
   ·rename_i a x b y ha;obtain⟨rfl,h⟩:=h;exact⟨_,h,acT ho hc ha⟩
   ·exact h.elim
  ·rename_i hc;unfold F3 at h;split at h
   ·rename_i a x b y ha;obtain⟨rfl,h⟩:=h;exact⟨_,h,acU ho hc ha⟩
   ·exact h.elim
  ·exact h.elim
  ·rename_i f hc;unfold uY at h;split at h
   ·rename_i gf caps hf;split at h
    ·rename_i xs hxs;obtain⟨r,h1,h2⟩:=h;exact⟨_,h2,Mu ho hc hf hxs h1⟩
    ·exact h.elim
   ·exact h.elim
  ·exact h.elim
 ·exact h.elim
end
section
variable{P:Program}{w0:World}{M0:Mem}{F:Nat->Prop}{tb:Tb}{g:G}{w w':World}
theorem a_{α:Type}{t k:Nat}{v:α}{l:List (Nat×α)}:lk t ((k,v)::l)=if t=k then some v else lk t l:=rfl
theorem eP{b n cap c:Nat}(h:dZ (.slice (some ⟨b,0,none⟩) n cap)=some c):c=b:=by
 simp only[dZ]at h;split at h
 ·injection h with h;exact h.symm
 ·cases h
theorem de{b n cap:Nat}(h:n<cap):dZ (.slice (some ⟨b,0,none⟩) n cap)=some b:=by simp[dZ,h]
theorem gI{a:Option Addr}{n:Nat}:dZ (.slice a n n)=none:=by cases a<;>simp[dZ]
theorem aQ.sub{aM:Tb}(h:aQ w0 M0 F tb g w)(hb:∀i o,lk i aM.bx=some o->lk i tb.bx=some o)(hr:∀i r,lk i aM.rw=some r->lk i tb.rw=some r)(hn:tb.nx<=aM.nx):aQ w0 M0 F aM g w:=⟨h.holds,h.keep,h.old,h.Dm,fun i o e=>h.boxes i o (hb i o e),fun i el sz e=>h.rows i el sz (hr i _ e),fun i j o p b c b' c' e1 e2=>h.f_ i j o p b c b' c' (hb i o e1) (hb j p e2),fun i j r s u v b e1 e2=>h.ia i j r s u v b (hr i r e1) (hr j s e2),fun i j o r b c v e1 e2=>h.fj i j o r b c v (hb i o e1) (hr j r e2),fun i hi=>h.fresh i (Nat.le_trans hn hi)⟩
theorem aQ.Mh(h:aQ w0 M0 F tb g w){i:Nat}{o:Ob}{b c:Nat}(e:lk i tb.bx=some o)(hb:g.ob i=some (b,c))(hc:0<c):b<w.heap.size:=by
 obtain⟨cur,_,_,⟨_,_,h4,_⟩,_⟩:=(h.boxes i o e).real hb hc;exact qQ h4
theorem aQ.Hy(h:aQ w0 M0 F tb g w){i:Nat}{r:TypeId×Nat}{v:Value}{b:Nat}(e:lk i tb.rw=some r)(hv:g.rv i=some v)(hb:dZ v=some b):b<w.heap.size:=by
 obtain⟨v',h1,h2⟩:=h.rows i r.1 r.2 e;rw[h1]at hv;injection hv with hv;subst hv;rcases h2 with⟨a,n,rfl⟩|⟨b',n,cap,cur,rfl,_,⟨_,_,h3,_⟩,_⟩
 ·cases a<;>simp[dZ]at hb
 ·simp only[dZ]at hb;split at hb
  ·injection hb with hb;subst hb;exact qQ h3
  ·cases hb
theorem aQ.AF(h:aQ w0 M0 F tb g w){i:Nat}{p:Nat×Nat}(e:g.ob i=some p):i<tb.nx:=by
 rcases Nat.lt_or_ge i tb.nx with h'|h'
 ·exact h'
 ·rw[(h.fresh i h').1]at e;cases e
theorem aQ.oc(h:aQ w0 M0 F tb g w){i:Nat}{v:Value}(e:g.rv i=some v):i<tb.nx:=by
 rcases Nat.lt_or_ge i tb.nx with h'|h'
 ·exact h'
 ·rw[(h.fresh i h').2]at e;cases e
def G.dw(g:G)(n b c:Nat):G:={g with ob:=fun i=>if i=n then some (b,c)else g.ob i}
def G.cY(g:G)(n:Nat)(v:Value):G:={g with rv:=fun i=>if i=n then some v else g.rv i}
def Tb.aS(tb:Tb)(o:Ob):Tb:=⟨(tb.nx,o)::tb.bx,tb.rw,tb.nx+1⟩
def Tb.bU(tb:Tb)(el:TypeId)(sz:Nat):Tb:=⟨tb.bx,(tb.nx,el,sz)::tb.rw,tb.nx+1⟩
def Tb.qf(tb:Tb)(id:Nat):Tb:={tb with rw:=del id tb.rw}
def Tb.cD(tb:Tb)(id:Nat):Tb:={tb with bx:=del id tb.bx}
def Tb.aP(tb:Tb)(id:Nat)(o:Ob):Tb:={tb with bx:=(id,o)::del id tb.bx}
theorem aQ.qf(h:aQ w0 M0 F tb g w)(id:Nat):aQ w0 M0 F (tb.qf id) g w:=h.sub (fun _ _ e=>e) (fun i r e=>by simp only[Tb.qf,cu]at e;split at e;cases e;exact e) (Nat.le_refl _)
theorem aQ.cD(h:aQ w0 M0 F tb g w)(id:Nat):aQ w0 M0 F (tb.cD id) g w:=h.sub (fun i r e=>by simp only[Tb.cD,cu]at e;split at e;cases e;exact e) (fun _ _ e=>e) (Nat.le_refl _)
theorem aQ.mD(h:aQ w0 M0 F tb g w)(b c:Nat):g.le (g.dw tb.nx b c):=⟨Mem.le_refl _,fun i p e=>by have:=h.AF e;simp only[G.dw];rw[if_neg (by omega)];exact e,fun _ _ e=>e⟩
theorem aQ.xS(h:aQ w0 M0 F tb g w)(v:Value):g.le (g.cY tb.nx v):=⟨Mem.le_refl _,fun _ _ e=>e,fun i p e=>by have:=h.oc e;simp only[G.cY];rw[if_neg (by omega)];exact e⟩
theorem aQ.Mi(h:aQ w0 M0 F tb g w){cur:Array Value}{o:Ob}{c:Nat}(hB:Below w.heap.size w w')(hb:∃t fz,w'.heap[w.heap.size]?=some (.cells cur t fz)/\Qr o.el t cur.size fz)(hs:cur.size=c*o.sz)(hc:c<=maxLen)(hl:o.xs.length<=cur.size)(hr:aJ g (cur.toList.take o.xs.length) o.xs)(h1:∀v∈cur.toList,v.oneCell'=true):aQ w0 M0 F (tb.aS o) (g.dw tb.nx w.heap.size c) w':=by
 have hH:gB w' g.M:=⟨fun b o v e=>by
  have hlt:=h.holds.lt e;rw[hB.cell (p:=⟨b,o,none⟩) hlt];exact h.holds b o v e,h.holds.g⟩
 have hl':=h.later (Mem.le_refl _) hH (fun _ _=>rfl) hB;have hle:=h.mD w.heap.size c;have hold:∀i p,lk i tb.bx=some p->i≠tb.nx:=fun i p e=>by
  obtain⟨b,c,e1,_⟩:=h.boxes i p e;have:=h.AF e1;omega
 have hM0:∀off,g.M w.heap.size off=none:=fun off=>by
  cases e:g.M w.heap.size off with
  |none=>rfl
  |some v=>have:=h.holds.lt e;omega
 refine⟨hH,hl'.keep,hl'.old,hl'.Dm,fun i p e=>?_,fun i el sz e=>?_,?_,?_,?_,?_⟩
 ·simp only[Tb.aS,a_]at e;split at e
  ·rename_i e';injection e with e;subst e;subst e';refine⟨w.heap.size,c,by simp[G.dw],fun _=>⟨cur,.inl h.keep.size,hM0,hb,Nat.le_of_eq hs.symm,hc,hl,hr.mono hle,h1⟩,fun h0=>?_⟩;subst h0;simp only[Nat.zero_mul]at hs;exact mB (by omega)
  ·rename_i e';obtain⟨b,c',e1,hr',h0⟩:=hl'.boxes i p e;refine⟨b,c',by simp only[G.dw];rw[if_neg e'];exact e1,fun Ji=>?_,h0⟩;obtain⟨cur',e2,e3,e4,e5,e6,e7,e8,e9⟩:=hr' Ji;exact⟨cur',e2,e3,e4,e5,e6,e7,e8.mono hle,e9⟩
 ·obtain⟨v,e1,e2⟩:=hl'.rows i el sz e;exact⟨v,e1,e2⟩
 ·intro i j p q b c1 b' c2 e1 e2 hij e3 e4 p1 p2;simp only[Tb.aS,a_]at e1 e2;simp only[G.dw]at e3 e4;split at e1
  ·rename_i hi;rw[if_pos hi]at e3;injection e3 with e3;injection e3 with e3 _;subst e3;split at e2
   ·rename_i hj;omega
   ·rename_i hj;rw[if_neg hj]at e4;have:=h.Mh e2 e4 p2;omega
  ·rename_i hi;rw[if_neg hi]at e3;split at e2
   ·rename_i hj;rw[if_pos hj]at e4;injection e4 with e4;injection e4 with e4 _;subst e4;have:=h.Mh e1 e3 p1;omega
   ·rename_i hj;rw[if_neg hj]at e4;exact h.f_ i j p q b c1 b' c2 e1 e2 hij e3 e4 p1 p2
 ·exact h.ia
 ·intro i j p r b c1 v e1 e2 e3 e4 p1 e5;simp only[Tb.aS,a_]at e1;simp only[G.dw]at e3;split at e1
  ·rename_i hi;rw[if_pos hi]at e3;injection e3 with e3;injection e3 with e3 _;subst e3;have:=h.Hy e2 e4 e5;omega
  ·rename_i hi;rw[if_neg hi]at e3;exact h.fj i j p r b c1 v e1 e2 e3 e4 p1 e5
 ·intro i hi;simp only[Tb.aS]at hi;have:=h.fresh i (by omega);simp only[G.dw];rw[if_neg (by omega)];exact this
theorem aQ.AG(h:aQ w0 M0 F tb g w){cur:Array Value}{o:Ob}{c:Nat}(hB:Below w.heap.size w w')(hb:w'.heap[w.heap.size]?=some (.cells cur o.el (0,0)))(hs:cur.size=c*o.sz)(hc:c<=maxLen)(hl:o.xs.length<=cur.size)(hr:aJ g (cur.toList.take o.xs.length) o.xs)(h1:∀v∈cur.toList,v.oneCell'=true):aQ w0 M0 F (tb.aS o) (g.dw tb.nx w.heap.size c) w':=h.Mi hB ⟨_,_,hb,.inl ⟨rfl,rfl⟩⟩ hs hc hl hr h1
theorem aQ.acQ(h:aQ w0 M0 F tb g w){cur:Array Value}{el sz n cap:Nat}(hB:Below w.heap.size w w')(hb:w'.heap[w.heap.size]?=some (.cells cur el (0,0)))(hs:cur.size=cap*sz)(hn:n<=cap)(hc:cap<=maxLen)(hsz:0<sz):let N:=g.M.ext w.heap.size (cur.toList.take (n*sz));aQ w0 M0 F (tb.bU el sz) ((g.with N).cY tb.nx (.slice (some ⟨w.heap.size,0,none⟩) n cap)) w'/\g.M.le N/\At N w.heap.size 0 (cur.toList.take (n*sz)):=by
 intro N;have hM:g.M.le N:=fun b o v e=>by
  have:=h.holds.lt e;show(if b=w.heap.size then _ else _)=_;rw[if_neg (by omega)];exact e
 have hO:∀b,b<w.heap.size->N b=g.M b:=fun b hb'=>by funext o;show(if b=w.heap.size then _ else _)=_;rw[if_neg (by omega)]
 have hat:At N w.heap.size 0 (cur.toList.take (n*sz)):=fun j v e=>by show(if w.heap.size=w.heap.size then _ else _)=_;rw[if_pos rfl,Nat.zero_add];exact e
 have hH:gB w' N:=⟨fun b o v e=>by
  by_cases hbw:b=w.heap.size
  ·subst hbw;have e':(cur.toList.take (n*sz))[o]?=some v:=by
    have e2:(if w.heap.size=w.heap.size then(cur.toList.take (n*sz))[o]? else g.M w.heap.size o)=some v:=e;rwa[if_pos rfl]at e2
   rw[List.getElem?_take]at e';split at e'
   ·unfold World.cell?;rw[hb];simpa using e'
   ·cases e'
  ·have e':g.M b o=some v:=by
    have e2:(if b=w.heap.size then(cur.toList.take (n*sz))[o]? else g.M b o)=some v:=e;rwa[if_neg hbw]at e2
   have hlt:=h.holds.lt e';rw[hB.cell (p:=⟨b,o,none⟩) hlt];exact h.holds b o v e',h.holds.g.mono hM⟩
 have hl':=h.later hM hH hO hB;have hle:=hl'.xS (.slice (some ⟨w.heap.size,0,none⟩) n cap);refine⟨⟨hH,hl'.keep,hl'.old,hl'.Dm,fun i p e=>?_,fun i Uq sz' e=>?_,?_,?_,?_,?_⟩,hM,hat⟩
 ·obtain⟨b,c',e1,hr',h0⟩:=hl'.boxes i p e;refine⟨b,c',e1,fun Ji=>?_,h0⟩;obtain⟨cur',e2,e3,e4,e5,e6,e7,e8,e9⟩:=hr' Ji;exact⟨cur',e2,e3,e4,e5,e6,e7,e8.mono hle,e9⟩
 ·simp only[Tb.bU,a_]at e;split at e
  ·rename_i e';subst e';injection e with e;injection e with e1 e2;subst e1;subst e2;refine⟨.slice (some ⟨w.heap.size,0,none⟩) n cap,by simp[G.cY],?_⟩;rcases Nat.lt_or_ge n cap with hlt|hge
   case inr=>
    obtain rfl:n=cap:=by omega
    exact .inl ⟨_,_,rfl⟩
   refine .inr ⟨w.heap.size,n,cap,cur,rfl,.inl h.keep.size,⟨_,_,hb,.inl ⟨rfl,rfl⟩⟩,Nat.le_of_eq hs.symm,hlt,hc,hsz,hat,?_⟩;intro o v e;have e2:(if w.heap.size=w.heap.size then(cur.toList.take (n*sz))[o]? else g.M w.heap.size o)=some v:=e;rw[if_pos rfl]at e2;have:=(List.getElem?_eq_some_iff.1 e2).1;simp at this;omega
  ·rename_i e';obtain⟨v,e1,e2⟩:=hl'.rows i Uq sz' e;exact⟨v,by simp only[G.cY];rw[if_neg e'];exact e1,e2⟩
 ·exact h.f_
 ·intro i j r s u v b e1 e2 hij e3 e4 e5;simp only[Tb.bU,a_]at e1 e2;simp only[G.cY]at e3 e4;split at e1
  ·rename_i hi;rw[if_pos hi]at e3;injection e3 with e3;subst e3;obtain rfl:=eP e5;split at e2
   ·rename_i hj;omega
   ·rename_i hj;rw[if_neg hj]at e4;intro e6;have:=h.Hy e2 e4 e6;omega
  ·rename_i hi;rw[if_neg hi]at e3;have hlt:=h.Hy e1 e3 e5;split at e2
   ·rename_i hj;rw[if_pos hj]at e4;injection e4 with e4;subst e4;intro e6;have:=eP e6;omega
   ·rename_i hj;rw[if_neg hj]at e4;exact h.ia i j r s u v b e1 e2 hij e3 e4 e5
 ·intro i j p r b c1 v e1 e2 e3 e4 p1;simp only[Tb.bU,a_]at e2;simp only[G.cY]at e4;have hlt:=h.Mh e1 e3 p1;split at e2
  ·rename_i hj;rw[if_pos hj]at e4;injection e4 with e4;subst e4;intro e6;have:=eP e6;omega
  ·rename_i hj;rw[if_neg hj]at e4;exact h.fj i j p r b c1 v e1 e2 e3 e4 p1
 ·intro i hi;simp only[Tb.bU]at hi;have:=h.fresh i (by omega);simp only[G.cY];rw[if_neg (by omega)];exact this
theorem aQ.sj(h:aQ w0 M0 F tb g w)(el sz:Nat)(a:Option Addr)(m:Nat):aQ w0 M0 F (tb.bU el sz) (g.cY tb.nx (.slice a m m)) w:=by
 have hle:=h.xS (.slice a m m);refine⟨h.holds,h.keep,h.old,h.Dm,fun i p e=>?_,fun i Uq sz' e=>?_,h.f_,?_,?_,?_⟩
 ·obtain⟨b,c',e1,hr',h0⟩:=h.boxes i p e;refine⟨b,c',e1,fun Ji=>?_,h0⟩;obtain⟨cur',e2,e3,e4,e5,e6,e7,e8,e9⟩:=hr' Ji;exact⟨cur',e2,e3,e4,e5,e6,e7,e8.mono hle,e9⟩
 ·simp only[Tb.bU,a_]at e;split at e
  ·rename_i e';subst e';exact⟨.slice a m m,by simp[G.cY],.inl ⟨a,m,rfl⟩⟩
  ·rename_i e';obtain⟨v,e1,e2⟩:=h.rows i Uq sz' e;exact⟨v,by simp only[G.cY];rw[if_neg e'];exact e1,e2⟩
 ·intro i j r s u v b e1 e2 hij e3 e4 e5;simp only[Tb.bU,a_]at e1 e2;simp only[G.cY]at e3 e4;split at e1
  ·rename_i hi;rw[if_pos hi]at e3;injection e3 with e3;subst e3;rw[gI]at e5;cases e5
  ·rename_i hi;rw[if_neg hi]at e3;split at e2
   ·rename_i hj;rw[if_pos hj]at e4;injection e4 with e4;subst e4;rw[gI];exact fun h=>by cases h
   ·rename_i hj;rw[if_neg hj]at e4;exact h.ia i j r s u v b e1 e2 hij e3 e4 e5
 ·intro i j p r b c1 v e1 e2 e3 e4 p1;simp only[Tb.bU,a_]at e2;simp only[G.cY]at e4;split at e2
  ·rename_i hj;rw[if_pos hj]at e4;injection e4 with e4;subst e4;rw[gI];exact fun h=>by cases h
  ·rename_i hj;rw[if_neg hj]at e4;exact h.fj i j p r b c1 v e1 e2 e3 e4 p1
 ·intro i hi;simp only[Tb.bU]at hi;have:=h.fresh i (by omega);simp only[G.cY];rw[if_neg (by omega)];exact this
theorem jV{b:Nat}{cur':Array Value}(k:Nat)(h:k≠b):(w.setRow b cur').heap[k]?=w.heap[k]?:=setRow_other w b k cur' h
theorem aQ.Ur(h:aQ w0 M0 F tb g w){id b c:Nat}{o o':Ob}{cur cur':Array Value}(e:lk id tb.bx=some o)(hg:g.ob id=some (b,c))(hc0:0<c){tt tt':TypeId}{fz fz':Nat×Nat}(hb:w.heap[b]?=some (.cells cur tt fz))(ho1:w'.os=w.os)(ho2:w'.tape=w.tape)(ho3:w'.output=w.output)(ho4:w'.heap.size=w.heap.size)(Q5:∀k,k≠b->w'.heap[k]?=w.heap[k]?)(hb':w'.heap[b]?=some (.cells cur' tt' fz'))(hs:cur'.size=cur.size)(hel:Qr o.el tt cur.size fz->Qr o'.el tt' cur'.size fz')(hsz:o'.sz=o.sz)(hl:o'.xs.length<=cur'.size)(hr:aJ g (cur'.toList.take o'.xs.length) o'.xs)(h1:∀v∈cur'.toList,v.oneCell'=true):aQ w0 M0 F (tb.aP id o') g w':=by
 obtain⟨aiH,e2,e3,⟨tt1,fz1,e4,efz⟩,e5,e6,_⟩:=(h.boxes id o e).real hg hc0;rw[hb]at e4;injection e4 with e4;injection e4 with e4 e4t Ab;subst e4;subst Ab;subst e4t;have hne:∀i p b' c',lk i tb.bx=some p->i≠id->g.ob i=some (b',c')->0<c'->b'≠b:=fun i p b' c' e' hi hg' hp=>h.f_ i id p o b' c' b c e' e hi hg' hg hp hc0;refine⟨⟨fun b' off v em=>?_,h.holds.g⟩,⟨ho1.trans h.keep.os,ho2.trans h.keep.tape,ho3.trans h.keep.output,by rw[ho4];exact h.keep.size,fun k hk hf=>?_⟩,h.old,h.Dm,fun i p ei=>?_,fun i el sz ei=>?_,?_,h.ia,?_,h.fresh⟩
 ·have Us:b'≠b:=fun hh=>by subst hh;rw[e3 off]at em;cases em
  have:=World.cell?_of_block (w:=w) (w':=w') (a:=⟨b',off,none⟩) (Q5 b' Us);rw[this];exact h.holds b' off v em
 ·have hkb:k≠b:=fun hh=>by
   subst hh;rcases e2 with e2|e2
   ·omega
   ·exact hf e2
  rw[Q5 k hkb];exact h.keep.block k hk hf
 ·simp only[Tb.aP,a_]at ei;split at ei
  ·rename_i hi;subst hi;injection ei with ei;subst ei;exact⟨b,c,hg,fun _=>⟨cur',e2,e3,⟨tt',fz',hb',hel efz⟩,by rw[hs,hsz];exact e5,e6,hl,hr,h1⟩,fun h0=>by omega⟩
  ·rename_i hi;rw[cu,if_neg hi]at ei;obtain⟨b1,c1,f1,fr,f0⟩:=h.boxes i p ei;refine⟨b1,c1,f1,fun hp=>?_,f0⟩;obtain⟨qg,f2,f3,f4,f5,f6,f7,f8,f9⟩:=fr hp;exact⟨qg,f2,f3,by rw[Q5 b1 (hne i p b1 c1 ei hi f1 hp)];exact f4,f5,f6,f7,f8,f9⟩
 ·obtain⟨v,f1,f2⟩:=h.rows i el sz ei;refine⟨v,f1,f2.imp (fun h=>h) ?_⟩;rintro⟨b1,n,cap,qg,f3,f4,f5,f6,f7,f8,f9,f10,f11⟩;have:b1≠b:=fun hh=>h.fj id i o _ b c v e ei hg f1 hc0 (by subst f3;subst hh;exact de f7);exact⟨b1,n,cap,qg,f3,f4,by rw[Q5 b1 this];exact f5,f6,f7,f8,f9,f10,f11⟩
 ·intro i j p q b1 c1 b2 c2 ei ej hij;simp only[Tb.aP,a_]at ei ej;have toOld:∀i p,(if i=id then some o' else lk i (del id tb.bx))=some p->∃p',lk i tb.bx=some p':=fun i p ei=>by
   split at ei
   ·rename_i hi;subst hi;exact⟨o,e⟩
   ·rename_i hi;rw[cu,if_neg hi]at ei;exact⟨p,ei⟩
  obtain⟨p',ep⟩:=toOld i p ei;obtain⟨q',eq⟩:=toOld j q ej;exact h.f_ i j p' q' b1 c1 b2 c2 ep eq hij
 ·intro i j p r b1 c1 v ei ej;simp only[Tb.aP,a_]at ei;split at ei
  ·rename_i hi;subst hi;exact h.fj i j o r b1 c1 v e ej
  ·rename_i hi;rw[cu,if_neg hi]at ei;exact h.fj i j p r b1 c1 v ei ej
theorem aQ.aP(h:aQ w0 M0 F tb g w){id b c:Nat}{o o':Ob}{cur cur':Array Value}(e:lk id tb.bx=some o)(hg:g.ob id=some (b,c))(hc0:0<c){tt:TypeId}{fz:Nat×Nat}(hb:w.heap[b]?=some (.cells cur tt fz))(hs:cur'.size=cur.size)(hel:o'.el=o.el)(hsz:o'.sz=o.sz)(hl:o'.xs.length<=cur'.size)(hr:aJ g (cur'.toList.take o'.xs.length) o'.xs)(h1:∀v∈cur'.toList,v.oneCell'=true):aQ w0 M0 F (tb.aP id o') g (w.setRow b cur'):=by
 exact h.Ur e hg hc0 hb rfl rfl rfl (setRow_size _ _ _) (fun k hk=>jV k hk) (setRow_heap w b cur cur' tt fz hb) hs (fun q=>by rw[hs,hel];exact q) hsz hl hr h1
theorem aQ.V_(h:aQ w0 M0 F tb g w){id b n n' cap el sz:Nat}{cur cur':Array Value}(e:lk id tb.rw=some (el,sz))(hg:g.rv id=some (.slice (some ⟨b,0,none⟩) n cap)){tt:TypeId}{fz:Nat×Nat}(hb:w.heap[b]?=some (.cells cur tt fz))(hs:cur'.size=cur.size)(hsame:∀j,j<n*sz->cur'[j]?=cur[j]?)(hn:n<=n')(hn':n'<=cap)(hlt:n<cap):let N:Mem:=fun b' o=>if b'=b then(cur'.toList.take (n'*sz))[o]? else g.M b' o;aQ w0 M0 F ((tb.qf id).bU el sz) ((g.with N).cY tb.nx (.slice (some ⟨b,0,none⟩) n' cap)) (w.setRow b cur')/\g.M.le N/\At N b 0 (cur'.toList.take (n'*sz)):=by
 intro N;obtain⟨v,e1,e2⟩:=h.rows id el sz e;rw[hg]at e1;injection e1 with e1;subst e1;rcases e2 with⟨a,m,e2⟩|⟨b0,n0,alX,aiH,e2,e3,⟨tt',fz',e4,efz⟩,e5,e6,e7,e8,e9,e10⟩
 ·injection e2;omega
 injection e2 with e2 e2' aiI;injection e2 with e2;injection e2 with e2;subst e2;subst e2';subst aiI;rw[hb]at e4;injection e4 with e4;injection e4 with e4 e4t Ab;subst e4;subst Ab;subst e4t;have hle:n*sz<=n'*sz:=Nat.mul_le_mul_right _ hn;have hbw:(w.setRow b cur').heap[b]?=some (.cells cur' tt fz):=setRow_heap w b cur cur' tt fz hb;have hM:g.M.le N:=fun b' o v em=>by
  show(if b'=b then _ else _)=_;split
  ·rename_i Us;subst Us;have ho:=e10 o v em;have hc:=h.holds b' o v em;unfold World.cell? at hc;rw[hb]at hc;simp only[Option.isSome_none,Bool.false_eq_true,if_false]at hc;rw[List.getElem?_take,if_pos (by omega)];rw[<-hsame o ho]at hc;simpa using hc
  ·exact em
 have hat:At N b 0 (cur'.toList.take (n'*sz)):=fun j v ej=>by show(if b=b then _ else _)=_;rw[if_pos rfl,Nat.zero_add];exact ej
 have Hz:∀b',b'≠b->N b'=g.M b':=fun b' hb'=>by funext o;show(if b'=b then _ else _)=_;rw[if_neg hb']
 have Mj:(g.with N).le ((g.with N).cY tb.nx (.slice (some ⟨b,0,none⟩) n' cap)):=⟨Mem.le_refl _,fun _ _ e=>e,fun i p e=>by have:=h.oc e;simp only[G.cY];rw[if_neg (by omega)];exact e⟩;refine⟨⟨⟨fun b' o v em=>?_,h.holds.g.mono hM⟩,⟨h.keep.os,h.keep.tape,h.keep.output,by rw[setRow_size];exact h.keep.size,fun k hk hf=>?_⟩,fun k hk hf=>?_,h.Dm.trans hM,fun i p ei=>?_,fun i Uq sz' ei=>?_,h.f_,?_,?_,?_⟩,hM,hat⟩
 ·by_cases Us:b'=b
  ·subst Us;have em':(cur'.toList.take (n'*sz))[o]?=some v:=by
    have e2:(if b'=b' then(cur'.toList.take (n'*sz))[o]? else g.M b' o)=some v:=em;rwa[if_pos rfl]at e2
   rw[List.getElem?_take]at em';split at em'
   ·unfold World.cell?;rw[hbw];simpa using em'
   ·cases em'
  ·have em':g.M b' o=some v:=by rw[<-Hz b' Us];exact em
   have:=World.cell?_of_block (w:=w) (w':=w.setRow b cur') (a:=⟨b',o,none⟩) (jV b' Us);rw[this];exact h.holds b' o v em'
 ·have hkb:k≠b:=fun hh=>by
   subst hh;rcases e3 with e3|e3
   ·omega
   ·exact hf e3
  rw[jV k hkb];exact h.keep.block k hk hf
 ·have hkb:k≠b:=fun hh=>by
   subst hh;rcases e3 with e3|e3
   ·omega
   ·exact hf e3
  show N k=M0 k;rw[Hz k hkb];exact h.old k hk hf
 ·obtain⟨b1,c1,f1,fr,f0⟩:=h.boxes i p ei;refine⟨b1,c1,f1,fun hp=>?_,f0⟩;obtain⟨qg,f2,f3,f4,f5,f6,f7,f8,f9⟩:=fr hp;have:b1≠b:=fun hh=>h.fj i id p _ b1 c1 _ ei e f1 hg hp (by subst hh;exact de hlt);exact⟨qg,f2,fun off=>by show N b1 off=none;rw[Hz b1 this];exact f3 off,by rw[jV b1 this];exact f4,f5,f6,f7,(f8.mono (G.oN hM)).mono Mj,f9⟩
 ·simp only[Tb.bU,Tb.qf,a_]at ei;split at ei
  ·rename_i hi;subst hi;injection ei with ei;injection ei with ei1 ei2;subst ei1;subst ei2;refine⟨.slice (some ⟨b,0,none⟩) n' cap,by simp[G.cY],?_⟩;rcases Nat.lt_or_ge n' cap with hlt'|hge
   case inr=>
    obtain rfl:n'=cap:=by omega
    exact .inl ⟨_,_,rfl⟩
   refine .inr ⟨b,n',cap,cur',rfl,?_,⟨tt,fz,hbw,by rw[hs];exact efz⟩,by rw[hs];exact e5,hlt',e7,e8,hat,?_⟩
   ·exact e3
   ·intro o v em;have e2:(if b=b then(cur'.toList.take (n'*sz))[o]? else g.M b o)=some v:=em;rw[if_pos rfl]at e2;have:=(List.getElem?_eq_some_iff.1 e2).1;simp at this;omega
  ·rename_i hi;rw[cu]at ei;split at ei
   ·cases ei
   ·rename_i hid;obtain⟨v,f1,f2⟩:=h.rows i Uq sz' ei;refine⟨v,by simp only[G.cY];rw[if_neg hi];exact f1,f2.imp (fun h=>h) ?_⟩;rintro⟨b1,n1,FR,qg,f3,f4,f5,f6,f7,f8,f9,f10,f11⟩;have:b1≠b:=fun hh=>h.ia id i _ _ _ v b e ei (fun VZ=>hid VZ.symm) hg f1 (de hlt) (by subst f3;subst hh;exact de f7);exact⟨b1,n1,FR,qg,f3,f4,by rw[jV b1 this];exact f5,f6,f7,f8,f9,f10.mono hM,fun o v em=>f11 o v (by rw[<-Hz b1 this];exact em)⟩
 ·intro i j r s u v b1 ei ej hij Ml Ab e5';simp only[Tb.bU,Tb.qf,a_,cu]at ei ej;simp only[G.cY]at Ml Ab;split at ei
  ·rename_i hi;rw[if_pos hi]at Ml;injection Ml with Ml;subst Ml;have e5':=eP e5';subst e5';split at ej
   ·rename_i hj;omega
   ·rename_i hj;rw[if_neg hj]at Ab;split at ej
    ·cases ej
    ·rename_i hjd;exact h.ia id j _ s _ v _ e ej (fun hh=>hjd hh.symm) hg Ab (de hlt)
  ·rename_i hi;rw[if_neg hi]at Ml;split at ei
   ·cases ei
   ·rename_i hid;split at ej
    ·rename_i hj;rw[if_pos hj]at Ab;injection Ab with Ab;subst Ab;intro e6';obtain rfl:=eP e6';exact h.ia i id r _ u _ _ ei e hid Ml hg e5' (de hlt)
    ·rename_i hj;rw[if_neg hj]at Ab;split at ej
     ·cases ej
     ·exact h.ia i j r s u v b1 ei ej hij Ml Ab e5'
 ·intro i j p r b1 c1 v ei ej Ml Ab p1;simp only[Tb.bU,Tb.qf,a_,cu]at ej;simp only[G.cY]at Ab;split at ej
  ·rename_i hj;rw[if_pos hj]at Ab;injection Ab with Ab;subst Ab;intro e6';obtain rfl:=eP e6';exact h.fj i id p _ _ c1 _ ei e Ml hg p1 (de hlt)
  ·rename_i hj;rw[if_neg hj]at Ab;split at ej
   ·cases ej
   ·exact h.fj i j p r b1 c1 v ei ej Ml Ab p1
 ·intro i hi;simp only[Tb.bU,Tb.qf]at hi;have:=h.fresh i (by omega);simp only[G.cY];rw[if_neg (by omega)];exact this
end
section
variable{P:Program}
structure Src(P:Program)(u:TypeId)(size:Nat)(x:Value)(m:Nat)(news:List Value)(w:World):Prop where
 und:(∃e,P.underlying u=some (.slice e))\/P.underlying u=some .string
 len:(Builtin.lenOf x).run P w= .ok m w
 cells:(Builtin.firstCells size m x).run P w= .ok news.toArray w
 aiO:(Builtin.firstCells size m x).run P w.drew= .ok news.toArray w.drew
 one:∀v∈news,v.oneCell'=true
 num:news.length=m*size
theorem gu(P:Program)(g o:Nat)(t:TypeId)(fz:Nat×Nat):∀(vs:List Value) (i:Nat) (cur:Array Value) (w:World),w.heap[g]?=some (.cells cur t fz)->(fz=(0,0)\/cur.size<=fz.1)->o+i+vs.length<=cur.size->(∀v∈vs,v.oneCell'=true)->(storeCells ⟨g,o,none⟩ vs i).run P w= .ok () (w.setRow g (cur.toList.take (o+i)++vs++cur.toList.drop (o+i+vs.length)).toArray)
 |[],i,cur,w,hg,_,_,_=>by
  simp only[storeCells,List.append_nil,List.length_nil,Nat.add_zero,List.take_append_drop,Array.toArray_toList];rw[setRow_self w g cur t fz hg];rfl
 |v::rest,i,cur,w,hg,hfz,hl,h1=>by
  have hi:o+i<cur.size:=by simp at hl;omega
  have aiP:(⟨g,o,none⟩:Addr).add i=⟨g,o+i,none⟩:=by unfold Addr.add;split<;>simp_all
  have hcell:w.cell? ⟨g,o+i,none⟩=some cur[o+i]:=by simp[World.cell?,hg,hi]
  have aiQ:w.frozen? ⟨g,o+i,none⟩=false:=by
   rcases hfz with rfl|hfz
   ·simp[World.frozen?,hg]
   ·obtain⟨lo,hi'⟩:=fz;simp only[World.frozen?,hg,Bool.and_eq_false_iff,decide_eq_false_iff_not];left;simp only at hfz;omega
  have hst:(store ((⟨g,o,none⟩:Addr).add i) v).run P w= .ok () (w.setRow g (cur.setIfInBounds (o+i) v)):=by
   rw[aiP,run_store P w _ v _ (h1 v (by simp)),hcell];simp[aiQ,setCell_eq_setRow w g (o+i) cur t fz v hg]
  have ih:=gu P g o t fz rest (i+1) (cur.setIfInBounds (o+i) v) (w.setRow g (cur.setIfInBounds (o+i) v)) (setRow_heap w g cur _ t _ hg) (by simpa using hfz) (by simp at hl⊢;omega) (fun x hx=>h1 x (by simp[hx]));simp only[storeCells,Sem.run_bind,hst,Result.andThen_ok,ih,setRow_setRow];congr 3;have e:=list_seg_step cur.toList (o+i) v rest (by simp at hl⊢;omega);simpa[Array.toList_setIfInBounds,Nat.add_assoc]using e
theorem B8{t u ty e:TypeId}{i:TypeInfo}(ht:P.underlying t=some (.slice e))(hi:P.info? e=some i){b sLen sCap m:Nat}{cur:Array Value}{x:Value}{news:List Value}{w:World}{tt:TypeId}{fz:Nat×Nat}(hg:w.heap[b]?=some (.cells cur tt fz))(hfz:fz=(0,0)\/cur.size<=fz.1)(hsrc:Src P u i.size x m news w)(hroom:sLen+m<=sCap)(hfit:sLen*i.size+news.length<=cur.size):(Builtin.append_ #[t,u] ty #[.slice (some ⟨b,0,none⟩) sLen sCap,x]).run P w= .ok (.slice (some ⟨b,0,none⟩) (sLen+m) sCap) (w.setRow b (cur.toList.take (sLen*i.size)++news++cur.toList.drop (sLen*i.size+news.length)).toArray):=by
 obtain⟨hu,hlen,hcells,_,hone,_⟩:=hsrc;have hst:=gu P b (sLen*i.size) tt fz news 0 cur w hg hfz (by simpa using hfit) hone;simp only[Nat.add_zero]at hst;rcases hu with⟨e',hu⟩|hu<;>simp[Builtin.append_,run_underlying ht,run_underlying hu,sizeOf,typeInfo,hi,hlen,hroom,hcells,Addr.add_lit,hst]
theorem tG{t u ty e:TypeId}{i:TypeInfo}{z:Value}(ht:P.underlying t=some (.slice e))(hi:P.info? e=some i)(hz:i.zero=some z){s:Value}{a:Option Addr}{sLen sCap m:Nat}{olds:List Value}{x:Value}{news:List Value}{w:World}(hs:s= .slice a sLen sCap)(hold:(Builtin.firstCells i.size sLen s).run P w.drew= .ok olds.toArray w.drew)(hsrc:Src P u i.size x m news w)(hroom:sCap<sLen+m)(h63:sLen+m<=9223372036854775807)(hfit:Builtin.nextslicecap (sLen+m) sCap*i.bytes<=281474976710656):(Builtin.append_ #[t,u] ty #[s,x]).run P w= .ok (.slice (some ⟨w.heap.size,0,none⟩) (sLen+m) (grownCap w (sLen+m) sCap e)) (w.drew.alloc (.cells (olds.toArray++news.toArray++Builtin.zeroCells z.cells (grownCap w (sLen+m) sCap e-(sLen+m))) e)):=by
 obtain⟨hu,hlen,hcells,Rz,hone,_⟩:=hsrc;have hn:¬(sLen+m<=sCap):=by omega
 have h63':¬(9223372036854775807<((sLen:Int)+(m:Int))):=by omega
 have Wy:¬(281474976710656<Builtin.nextslicecap (sLen+m) sCap*i.bytes):=by omega
 subst hs;rcases hu with⟨e',hu⟩|hu<;>simp[Builtin.append_,run_underlying ht,run_underlying hu,sizeOf,typeInfo,zeroValue,hi,hz,hlen,hn,h63',Wy,Question.forced,Rz,hold,newRow,grownCap]
 all_goals (congr 2;apply Array.ext';simp)
end
def dA(P:Program)(st:AS)(o:Oper)(x:AV)(aM:Tb):Prop:=∀(w0:World) (M0:Mem) (F:Nat->Prop) (g:G) (a:Act) (w:World),aQ w0 M0 F st.tb g w->(∀t,Operand.tmp t∈o.op.operands->aX g (a.tmps.getD t undef) (st.sl t))->∀(K:Act->World->Prop) (Q:Exit->Act->World->Prop),(∀v w' g',g.le g'->aQ w0 M0 F aM g' w'->aX g' v x->K (a.put o.dst v) w')->o.wp P a w K Q
section
variable{P:Program}{st:AS}{o:Oper}
theorem dA.Xi{x:AV}(h:cP P st.sl o x):dA P st o x st.tb:=fun w0 M0 F g a w hw ho K Q hK=>
 h w0 M0 F st.tb g a w hw ho K Q fun v w' N h1 h2 h3=>hK v w' (g.with N) (G.oN h1) h2 h3
theorem bK{x:AV}{aM:Tb}(h:∀(w0:World) (M0:Mem) (F:Nat->Prop) (g:G) (a:Act) (w:World),aQ w0 M0 F st.tb g w->(∀y,y∈o.op.operands->aX g (a.eval y) (bE st.sl y))->∃v w' g',(execOp a.eval o).run P w= .ok (.value v) w'/\g.le g'/\aQ w0 M0 F aM g' w'/\aX g' v x):dA P st o x aM:=by
 intro w0 M0 F g a w hw ho K Q hK;obtain⟨v,w',g',hr,h1,h2,h3⟩:=h w0 M0 F g a w hw (fun y hy=>iZ y fun t e=>ho t (e▸hy));unfold Oper.wp;rw[hr];exact hK v w' g' h1 h2 h3
theorem Kh{aM:Tb}(h:∀(w0:World) (M0:Mem) (F:Nat->Prop) (g:G) (a:Act) (w:World),aQ w0 M0 F st.tb g w->(∀y,y∈o.op.operands->aX g (a.eval y) (bE st.sl y))->∃w' g',(execOp a.eval o).run P w= .ok .skip w'/\g.le g'/\aQ w0 M0 F aM g' w'):dA P st o .any aM:=by
 intro w0 M0 F g a w hw ho K Q hK;obtain⟨w',g',hr,h1,h2⟩:=h w0 M0 F g a w hw (fun y hy=>iZ y fun t e=>ho t (e▸hy));unfold Oper.wp;rw[hr];exact hK undef w' g' h1 h2 (.any _)
def AV.cR:AV->Option (List AV)
 | .p (.agg false xs)=>some (xs.map .p)
 | .p (.agg true _)=>none
 | .agg false xs=>some xs
 | .agg true _=>none
 | .any=>none
 |x=>some [x]
theorem jZ{g:G}:∀{vs:List Value} {xs:List PC},cJ g.M vs xs->aJ g vs (xs.map .p)
 |_,_,.nil=> .nil
 |_,_,.cons h hs=> .cons (.p h) (jZ hs)
theorem oY{g:G}{v:Value}{x:AV}{zs:List AV}(h:aX g v x)(e:x.cR=some zs):aJ g v.cells.toList zs/\∀u∈v.cells.toList,u.oneCell'=true:=by
 have one:∀u:Value,u.oneCell'=true->u.cells=#[u]:=fun u hu=>by cases u<;>simp_all [Value.cells,Value.oneCell']
 have single:x.cR=some [x]->v.oneCell'=true->aJ g v.cells.toList zs/\∀u∈v.cells.toList,u.oneCell'=true:=fun hx h1=>by
  rw[hx]at e;injection e with e;subst e;rw[one v h1];exact⟨.cons h .nil,by simpa using h1⟩
 cases h with
 |p h1=>
  rename_i y;cases y with
  |agg b xs=>
   cases b with
   |true=>simp[AV.cR]at e
   |false=>
    simp only[AV.cR,Option.some.injEq]at e;subst e;cases h1 with
    |agg hs h2=>exact⟨by simpa[Value.cells]using jZ hs,by simpa[Value.cells]using h2⟩
  |_=>exact single rfl (iI h1 rfl).2
 |obj _=>exact single rfl rfl
 |own _ hr=>exact single rfl (iI hr rfl).2
 |full hr=>exact single rfl rfl
 |nn _=>exact single rfl rfl
 |view _ _ _ _ _=>exact single rfl rfl
 |agg hs h1=>simp only[AV.cR,Option.some.injEq]at e;subst e;exact⟨by simpa[Value.cells]using hs,by simpa[Value.cells]using h1⟩
 |lJ _=>exact single rfl rfl
 |mE _=>exact single rfl rfl
 |mW _=>exact single rfl rfl
 |qi _=>simp[AV.cR]at e
 |any _=>simp[AV.cR]at e
theorem aJ.take{g:G}:∀{vs:List Value} {xs:List AV} (n:Nat),aJ g vs xs->aJ g (vs.take n) (xs.take n)
 |_,_,0,_=>by simpa using aJ.nil
 |_,_,n+1,.nil=>by simpa using aJ.nil
 |_,_,n+1,.cons h1 hs=>by simpa using aJ.cons h1 (hs.take n)
theorem aJ.drop{g:G}:∀{vs:List Value} {xs:List AV} (n:Nat),aJ g vs xs->aJ g (vs.drop n) (xs.drop n)
 |_,_,0,h=>by simpa using h
 |_,_,n+1,.nil=>by simpa using aJ.nil
 |_,_,n+1,.cons h1 hs=>by simpa using hs.drop n
theorem aJ.append{g:G}:∀{vs ws:List Value} {xs ys:List AV},aJ g vs xs->aJ g ws ys->aJ g (vs++ws) (xs++ys)
 |_,_,_,_,.nil,k=>k
 |_,_,_,_,.cons h1 hs,k=> .cons h1 (hs.append k)
def bG(P:Program)(t:TypeId):Option (List PC):=match(P.info? t).bind (·.zero)with
 |some z=>if z.cells.toList.all (·.oneCell')then some (z.cells.toList.map c1)else none
 |none=>none
theorem UT{el:TypeId}{cs:Array Value}{zs:List AV}{w0:World}{M0:Mem}{F:Nat->Prop}{g:G}{w:World}(hw:aQ w0 M0 F st.tb g w)(hr:aJ g cs.toList zs)(h1:∀u∈cs.toList,u.oneCell'=true):aQ w0 M0 F (st.tb.aS ⟨el,zs.length,zs⟩) (g.dw st.tb.nx w.heap.size 1) (w.alloc (.cells cs el)):=by
 have hl:=hr.length;have hB:Below w.heap.size w (w.alloc (.cells cs el)):=(Below.refl _ _).alloc (Nat.le_refl _) _;have ht:cs.toList.take zs.length=cs.toList:=fY (by omega);have e1:=hw.AG (o:=⟨el,zs.length,zs⟩) (cur:=cs) (c:=1) hB (heap_alloc_new w _) (by simp at hl;simp[hl]) (by decide) (by simp at hl;simp[hl]) (by rw[ht];exact hr) h1;exact e1
theorem adM{t:TypeId}{x:Operand}{zs:List AV}(ho:o.op= .box t x)(hx:(bE st.sl x).cR=some zs):dA P st o (.obj st.tb.nx 0) (st.tb.aS ⟨t,zs.length,zs⟩):=bK fun w0 M0 F g a w hw h=>by
 have h1:=h x (by simp[ho,Op.operands]);obtain⟨hr,hone⟩:=oY h1 hx;exact⟨.pointer (some ⟨w.heap.size,0,none⟩),w.alloc (.cells (a.eval x).cells t),_,by simp[execOp,ho,Instr.box,newVar,newRow],hw.mD _ _,UT hw hr hone,.obj (c:=1) (by simp[G.dw])⟩
theorem SJ{t:TypeId}{zs:List PC}(ho:o.op= .alloc t)(hz:bG P t=some zs):dA P st o (.obj st.tb.nx 0) (st.tb.aS ⟨t,zs.length,zs.map .p⟩):=bK fun w0 M0 F g a w hw h=>by
 unfold bG at hz;split at hz
 ·rename_i z Am;split at hz
  ·rename_i hall;injection hz with hz;subst hz;have UU:∀v∈z.cells.toList,v.oneCell'=true:=List.all_eq_true.1 hall;have hr:aJ g z.cells.toList ((z.cells.toList.map c1).map .p):=jZ (tI g.M _ UU);have hnew:=UT (el:=t) hw hr UU;rw[List.length_map]at hnew;refine⟨.pointer (some ⟨w.heap.size,0,none⟩),w.alloc (.cells z.cells t),_,?_,hw.mD _ _,hnew,.obj (c:=1) (by simp[G.dw])⟩;cases hi:P.info? t with
   |none=>rw[hi]at Am;cases Am
   |some i=>
    rw[hi]at Am;have oC:i.zero=some z:=by simpa using Am
    simp[execOp,ho,Instr.alloc,zeroValue,typeInfo,hi,oC,newVar,newRow]
  ·cases hz
 ·cases hz
def ku(off size:Nat)(a:Bool)(xs:List AV):Option AV:=if a then(if off+size<=xs.length then some (.agg false ((xs.drop off).take size))else none)else if size=1 then xs[off]? else none
theorem Oe{t:TypeId}{x:Operand}{id off s:Nat}{ag:Bool}{ob:Ob}{y:AV}(ho:o.op= .load t x)(hx:bE st.sl x= .obj id off)(hl:lk id st.tb.bx=some ob)(ht:bL P t=some ag)(hs:aO P t=some s)(hp:ku off s ag ob.xs=some y):dA P st o y st.tb:=bK fun w0 M0 F g a w hw h=>by
 have h1:=h x (by simp[ho,Op.operands]);rw[hx]at h1;generalize hv:a.eval x=v at h1;cases h1 with
 |obj e=>
  rename_i b c;have yZ:=hw.boxes id ob hl;by_cases hne:ob.xs=[]
  ·unfold ku at hp;rw[hne]at hp;cases ag with
   |true=>
    simp only[if_true]at hp;split at hp
    ·rename_i hle;injection hp with hp;subst hp;simp only[List.length_nil,Nat.le_zero]at hle;obtain⟨rfl,rfl⟩:off=0/\s=0:=by omega
     exact⟨.agg #[],w,g,by simp[execOp,ho,hv,Instr.loadAt,Instr.sureAddr,loadVar,gJ ht,run_sizeOf hs,loadCells,loadCellsFrom],G.le_refl _,hw,by simpa using aX.agg (g:=g) (vs:=[]) (xs:=[]) .nil (by simp)⟩
    ·cases hp
   |false=>simp at hp
  have g_:=yZ.pos e hne;obtain⟨cur,f2,f3,⟨tt,fz,f4,fo⟩,f5,f6,f7,f8,f9⟩:=yZ.real e g_;have cell:∀j u,cur[j]?=some u->w.cell? ⟨b,j,none⟩=some u:=fun j u e=>by unfold World.cell?;rw[f4];simpa using e
  have hlen:=f8.length;unfold ku at hp;cases ag with
  |true=>
   simp only[if_true]at hp;split at hp
   ·rename_i hle;injection hp with hp;subst hp;have iB:off+s<=cur.toList.length:=by simp;omega
    have hls:((cur.toList.drop off).take s).length=s:=by rw[List.length_take,List.length_drop];omega
    have hrun:=run_loadCells_list (P:=P) w ⟨b,off,none⟩ ((cur.toList.drop off).take s) (fun j u e=>by
     rw[Addr.add_lit];rw[List.getElem?_take]at e;split at e
     ·rw[List.getElem?_drop]at e;exact cell _ _ (by simpa using e)
     ·cases e)
    rw[hls]at hrun;have Jy:aJ g ((cur.toList.drop off).take s) ((ob.xs.drop off).take s):=by
     have:=(f8.drop off).take s;have e3:((cur.toList.take ob.xs.length).drop off).take s=(cur.toList.drop off).take s:=by
      rw[List.drop_take,List.take_take,Nat.min_eq_left (by omega)]
     rw[e3]at this;exact this
    refine⟨.agg ((cur.toList.drop off).take s).toArray,w,g,?_,G.le_refl _,hw,.agg Jy (fun u hu=>f9 u ?_)⟩
    ·simp[execOp,ho,hv,Instr.loadAt,Instr.sureAddr,loadVar,gJ ht,run_sizeOf hs,hrun]
    ·have e3:((cur.toList.take ob.xs.length).drop off).take s=(cur.toList.drop off).take s:=by
      rw[List.drop_take,List.take_take,Nat.min_eq_left (by omega)]
     rw[<-e3]at hu;exact jH (List.mem_of_mem_drop (jH hu))
   ·cases hp
  |false=>
   simp only[Bool.false_eq_true,if_false]at hp;split at hp
   ·obtain⟨u,hu,hr⟩:=f8.get hp;have LQ:cur[off]?=some u:=by
     rw[List.getElem?_take]at hu;split at hu
     ·simpa using hu
     ·cases hu
    exact⟨u,w,g,by simp[execOp,ho,hv,Instr.loadAt,Instr.sureAddr,loadVar,gJ ht,load,Sem.run,cell _ _ LQ],G.le_refl _,hw,hr⟩
   ·cases hp
theorem Il{t:TypeId}{x y:Operand}{id off:Nat}{ob:Ob}{zs:List AV}(ho:o.op= .store t x y)(hx:bE st.sl x= .obj id off)(hl:lk id st.tb.bx=some ob)(hy:(bE st.sl y).cR=some zs)(hs:aO P t=some zs.length)(hle:off+zs.length<=ob.xs.length):dA P st o .any (st.tb.aP id {ob with xs:=ob.xs.take off++zs++ob.xs.drop (off+zs.length)}):=Kh fun w0 M0 F g a w hw h=>by
 have h1:=h x (by simp[ho,Op.operands]);rw[hx]at h1;obtain⟨hr,hone⟩:=oY (h y (by simp[ho,Op.operands])) hy;have hlz:=hr.length;generalize hv:a.eval x=v at h1;generalize hvy:a.eval y=vy at*;cases h1 with
 |obj e=>
  rename_i b c;have f1:=e;have yZ:=hw.boxes id ob hl;by_cases hne:ob.xs=[]
  ·obtain⟨rfl,hz⟩:off=0/\zs.length=0:=by rw[hne]at hle;simpa using hle
   have hz0:=mB hz;subst hz0;have adN:vy.cells.toList=[]:=mB (by simpa using hlz);refine⟨w,g,?_,G.le_refl _,hw.sub (fun i p e=>?_) (fun _ _ e=>e) (Nat.le_refl _)⟩
   ·have e4:vy.cells.size=0:=by simpa using congrArg List.length adN
    simp[execOp,ho,hv,hvy,Instr.storeAt,Instr.sureAddr,storeVar,run_sizeOf hs,e4,adN,storeCells]
   ·simp only[Tb.aP,a_]at e;by_cases hi:i=id
    ·rw[if_pos hi]at e;injection e with e;subst e;subst hi;rw[hl];cases ob;simp at hne;subst hne;rfl
    ·rw[if_neg hi,cu,if_neg hi]at e;exact e
  have g_:=yZ.pos e hne;obtain⟨cur,f2,f3,⟨tt,fz,f4,fo⟩,f5,f6,f7,f8,f9⟩:=yZ.real e g_;have hlen:=f8.length;have hst:=gu P b off tt fz vy.cells.toList 0 cur w f4 fo.fz (by simp at hlz⊢;omega) hone;simp only[Nat.add_zero]at hst;have hxl:(ob.xs.take off++zs++ob.xs.drop (off+zs.length)).length=ob.xs.length:=by simp;omega
  have xR:((cur.toList.take off++vy.cells.toList++cur.toList.drop (off+vy.cells.toList.length)).toArray).toList.take ob.xs.length=(cur.toList.take ob.xs.length).take off++vy.cells.toList++(cur.toList.take ob.xs.length).drop (off+zs.length):=by
   apply List.ext_getElem?;intro j;simp only[List.getElem?_take,List.getElem?_append,dU,List.length_take,List.getElem?_drop,Array.length_toList,hlz];have e4:vy.cells.size=zs.length:=by simpa using hlz
   simp only[e4,Array.length_toList]at*;by_cases h1:j<ob.xs.length
   ·by_cases h2:j<off
    ·have:j<min off cur.size:=by omega
     have h3:j<min off (min ob.xs.length cur.size):=by omega
     simp[h1,h2,this,h3];split<;>split<;>first|rfl|omega|(split<;>first|rfl|omega)
    ·by_cases h3:j<off+zs.length
     ·have e5:min off cur.size=off:=by omega
      have e6:min off (min ob.xs.length cur.size)=off:=by omega
      simp[h1,h2,h3,e5,e6]
     ·have e5:min off cur.size=off:=by omega
      have e6:min off (min ob.xs.length cur.size)=off:=by omega
      simp[h1,h3,e5,e6,show off+zs.length+(j-(off+zs.length))=j by omega]
   ·have e5:min off (min ob.xs.length cur.size)=off:=by omega
    simp[h1,e5,show¬j<off by omega,show¬j<off+zs.length by omega,show¬off+zs.length+(j-(off+zs.length))<ob.xs.length by omega]
  refine⟨w.setRow b (cur.toList.take off++vy.cells.toList++cur.toList.drop (off+vy.cells.toList.length)).toArray,g,?_,G.le_refl _,hw.aP (c:=c) hl f1 g_ f4 ?_ rfl rfl ?_ ?_ ?_⟩
  ·have e4:vy.cells.size=zs.length:=by simpa using hlz
   simp[execOp,ho,hv,hvy,Instr.storeAt,Instr.sureAddr,storeVar,run_sizeOf hs,e4,hst]
  ·simp at hlz⊢;omega
  ·rw[hxl];simp at hlz⊢;omega
  ·rw[hxl,xR];exact((f8.take off).append hr).append (f8.drop (off+zs.length))
  ·intro u hu;simp only[iR]at hu;rcases hu with(hu|hu)|hu
   ·exact f9 u (jH hu)
   ·exact hone u hu
   ·exact f9 u (List.mem_of_mem_drop hu)
end
end Go.Av
