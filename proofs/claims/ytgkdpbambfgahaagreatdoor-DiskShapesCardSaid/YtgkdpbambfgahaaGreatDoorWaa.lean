/- DiskShapes, part 1: an abstract interpreter over any program's form, with its proof of soundness; no condition. -/
import Derived.WalkKit
import Derived.Still
import Derived.Deep.LoopGhost
import Derived.WalkLawsBesides
set_option linter.all false
set_option maxRecDepth 100000
set_option maxHeartbeats 64000000
namespace Go.Av
open Go.RowKit
theorem iA{α:Type _}{l:List α}{i:Nat}(h:i<l.length):l.take (i+1)=l.take i++[l[i]]:=List.take_succ_eq_append_getElem h
theorem dU{α:Type _}{as bs:List α}:(as++bs).length=as.length+bs.length:=List.length_append
theorem fY{α:Type _}{i:Nat}{l:List α}(h:l.length<=i):l.take i=l:=List.take_of_length_le h
theorem kq{α:Type _}{l:List α}{i:Nat}(h:i<l.length):l[i]?=some l[i]:=List.getElem?_eq_getElem h
theorem mB{α:Type _}{l:List α}(h:l.length=0):l=[]:=List.eq_nil_of_length_eq_zero h
theorem jH{α:Type _}{a:α}{i:Nat}{l:List α}(h:a∈l.take i):a∈l:=List.mem_of_mem_take h
theorem pR{α:Type _}{l:List α}{i:Nat}{a:α}:l.getD i a=l[i]?.getD a:=List.getD_eq_getElem?_getD
theorem iR{α:Type _}{a:α}{s t:List α}:a∈s++t↔a∈s\/a∈t:=List.mem_append
abbrev Mem:=Nat->Nat->Option Value
def Mem.le(M N:Mem):Prop:=∀b o v,M b o=some v->N b o=some v
theorem Mem.le_refl(M:Mem):M.le M:=fun _ _ _ h=>h
theorem Mem.le.trans{A B C:Mem}(h:A.le B)(k:B.le C):A.le C:=fun _ _ _ e=>k _ _ _ (h _ _ _ e)
inductive PC where
 |sc (v:Value)
 |nil
 |agg (qi:Bool) (xs:List PC)
 |sl (xs:List PC)
 |ref (x:PC)
 |fn (f:Fn) (caps:List PC)
 deriving Inhabited
def At(M:Mem)(b off:Nat)(vs:List Value):Prop:=∀j v,vs[j]?=some v->M b (off+j)=some v
def cellsOf(us:List Value):List Value:=us.flatMap fun u=>u.cells.toList
mutual
inductive gO(M:Mem):Value->PC->Prop
 |sc (v:Value) (h:v.oneCell'=true):gO M v (.sc v)
 |nil:gO M (.slice none 0 0) .nil
 |cX:gO M (.slice none 0 0) (.sl [])
 |rH (a:Addr):gO M (.slice (some a) 0 0) (.sl [])
 |agg {vs:List Value} {xs:List PC} (h:cJ M vs xs) (h1:∀v∈vs,v.oneCell'=true):gO M (.agg vs.toArray) (.agg false xs)
 |qi {vs:List Value} {xs:List PC} (h:cJ M vs xs):gO M (.tuple vs.toArray) (.agg true xs)
 |sl {b off n cap sz:Nat} {us:List Value} {xs:List PC} (hn:us.length=n) (hc:n<=cap) (hm:cap<=maxLen) (hsz:0<sz) (hu:∀u∈us,u.cells.size=sz) (h1:∀v∈cellsOf us,v.oneCell'=true) (hat:At M b off (cellsOf us)) (h:cJ M us xs):gO M (.slice (some ⟨b,off,none⟩) n cap) (.sl xs)
 |ref {b off:Nat} {u:Value} {x:PC} (hat:At M b off u.cells.toList) (h:gO M u x):gO M (.pointer (some ⟨b,off,none⟩)) (.ref x)
 |fn {f:Fn} {vs:List Value} {xs:List PC} (h:cJ M vs xs):gO M (.func f #[] vs.toArray) (.fn f xs)
inductive cJ(M:Mem):List Value->List PC->Prop
 |nil:cJ M [] []
 |cons {v:Value} {x:PC} {vs:List Value} {xs:List PC} (h:gO M v x) (hs:cJ M vs xs):cJ M (v::vs) (x::xs)
end
theorem At.mono{M N:Mem}(h:M.le N){b off:Nat}{vs:List Value}(k:At M b off vs):At N b off vs:=fun j v e=>h _ _ _ (k j v e)
mutual
theorem gO.mono{M N:Mem}(h:M.le N){v:Value}{x:PC}(k:gO M v x):gO N v x:=by
 cases k with
 |sc v h1=>exact .sc v h1
 |nil=>exact .nil
 |cX=>exact .cX
 |rH a=>exact .rH a
 |agg hs h1=>exact .agg (hs.mono h) h1
 |qi hs=>exact .qi (hs.mono h)
 |sl hn hc hm hsz hu h1 hat hs=>exact .sl hn hc hm hsz hu h1 (hat.mono h) (hs.mono h)
 |ref hat hs=>exact .ref (hat.mono h) (hs.mono h)
 |fn hs=>exact .fn (hs.mono h)
theorem cJ.mono{M N:Mem}(h:M.le N){vs:List Value}{xs:List PC}(k:cJ M vs xs):cJ N vs xs:=by
 cases k with
 |nil=>exact .nil
 |cons h1 hs=>exact .cons (h1.mono h) (hs.mono h)
end
theorem cJ.length{M:Mem}:∀{vs:List Value} {xs:List PC},cJ M vs xs->vs.length=xs.length
 |[],[],_=>rfl
 |_::_,_::_,.cons _ hs=>by simp[hs.length]
theorem cJ.get{M:Mem}:∀{vs:List Value} {xs:List PC},cJ M vs xs->∀{i:Nat} {x:PC},xs[i]?=some x->∃v,vs[i]?=some v/\gO M v x
 |_,_,.nil,_,_,h=>by simp at h
 |_,_,.cons (v:=v) h1 hs,0,x,h=>by simp at h;subst h;exact⟨v,by simp,h1⟩
 |_,_,.cons h1 hs,i+1,x,h=>by simp at h;simpa using hs.get h
theorem cJ.append{M:Mem}:∀{vs ws:List Value} {xs ys:List PC},cJ M vs xs->cJ M ws ys->cJ M (vs++ws) (xs++ys)
 |_,_,_,_,.nil,k=>k
 |_,_,_,_,.cons h1 hs,k=> .cons h1 (hs.append k)
theorem cJ.take{M:Mem}:∀{vs:List Value} {xs:List PC} (n:Nat),cJ M vs xs->cJ M (vs.take n) (xs.take n)
 |_,_,0,_=>by simpa using cJ.nil
 |_,_,n+1,.nil=>by simpa using cJ.nil
 |_,_,n+1,.cons h1 hs=>by simpa using cJ.cons h1 (hs.take n)
theorem cJ.drop{M:Mem}:∀{vs:List Value} {xs:List PC} (n:Nat),cJ M vs xs->cJ M (vs.drop n) (xs.drop n)
 |_,_,0,h=>by simpa using h
 |_,_,n+1,.nil=>by simpa using cJ.nil
 |_,_,n+1,.cons h1 hs=>by simpa using hs.drop n
inductive AV where
 |p (x:PC)
 |obj (id off:Nat)
 |own (id:Nat) (xs:List PC)
 |full (xs:List PC)
 |nn (xs:List PC)
 |view (id o n s:Nat) (c:Option Nat)
 |agg (qi:Bool) (xs:List AV)
 |lJ (f:Fn) (xs:List AV)
 |mE (f:Fn) (xs:List AV)
 |mW (t:TypeId) (x:AV)
 |any
 deriving Inhabited
structure G where
 M:Mem
 ob:Nat->Option (Nat×Nat)
 rv:Nat->Option Value
inductive yh(a:Option Addr)(b c o s:Nat):Prop
 |real (off:Nat) (h0:0<c) (ha:a=some ⟨b,off,none⟩) (ho:o<c\/o=0->off=o*s)
 |void (h0:c=0) (ha:a=none\/∃a',a=some a')
mutual
inductive aX(g:G):Value->AV->Prop
 |p {v:Value} {x:PC} (h:gO g.M v x):aX g v (.p x)
 |obj {id off b c:Nat} (h:g.ob id=some (b,c)):aX g (.pointer (some ⟨b,off,none⟩)) (.obj id off)
 |own {id:Nat} {v:Value} {xs:List PC} (h:g.rv id=some v) (hr:gO g.M v (.sl xs)):aX g v (.own id xs)
 |full {a:Option Addr} {n:Nat} {xs:List PC} (hr:gO g.M (.slice a n n) (.sl xs)):aX g (.slice a n n) (.full xs)
 |nn {a:Addr} {n c:Nat} {xs:List PC} (hr:gO g.M (.slice (some a) n c) (.sl xs)):aX g (.slice (some a) n c) (.nn xs)
 |view {id b c o n s:Nat} {a:Option Addr} {m:Option Nat} (h:g.ob id=some (b,c)) (hn:o+n<=c) (hc:c<=maxLen) (ha:yh a b c o s) (hm:∀k,m=some k->c=k):aX g (.slice a n (c-o)) (.view id o n s m)
 |agg {vs:List Value} {xs:List AV} (h:aJ g vs xs) (h1:∀v∈vs,v.oneCell'=true):aX g (.agg vs.toArray) (.agg false xs)
 |qi {vs:List Value} {xs:List AV} (h:aJ g vs xs):aX g (.tuple vs.toArray) (.agg true xs)
 |lJ {f:Fn} {vs:List Value} {xs:List AV} (h:aJ g vs xs):aX g (.func f #[] vs.toArray) (.lJ f xs)
 |mE {f:Fn} {vs:List Value} {xs:List AV} (h:aJ g vs xs):aX g (.func f vs.toArray #[]) (.mE f xs)
 |mW {t:TypeId} {v:Value} {x:AV} (h:aX g v x):aX g (.iface t v) (.mW t x)
 |any (v:Value):aX g v .any
inductive aJ(g:G):List Value->List AV->Prop
 |nil:aJ g [] []
 |cons {v:Value} {x:AV} {vs:List Value} {xs:List AV} (h:aX g v x) (hs:aJ g vs xs):aJ g (v::vs) (x::xs)
end
structure G.le(g g':G):Prop where
 M:g.M.le g'.M
 ob:∀i p,g.ob i=some p->g'.ob i=some p
 rv:∀i v,g.rv i=some v->g'.rv i=some v
theorem G.le_refl(g:G):g.le g:=⟨Mem.le_refl _,fun _ _ h=>h,fun _ _ h=>h⟩
theorem G.le.trans{a b c:G}(h:a.le b)(k:b.le c):a.le c:=⟨h.M.trans k.M,fun _ _ e=>k.ob _ _ (h.ob _ _ e),fun _ _ e=>k.rv _ _ (h.rv _ _ e)⟩
mutual
theorem aX.mono{g g':G}(h:g.le g'){v:Value}{x:AV}(k:aX g v x):aX g' v x:=by
 cases k with
 |p h1=>exact .p (h1.mono h.M)
 |obj e=>exact .obj (h.ob _ _ e)
 |own e hr=>exact .own (h.rv _ _ e) (hr.mono h.M)
 |full hr=>exact .full (hr.mono h.M)
 |nn hr=>exact .nn (hr.mono h.M)
 |view e h1 h2 h3 h4=>exact .view (h.ob _ _ e) h1 h2 h3 h4
 |agg hs h1=>exact .agg (hs.mono h) h1
 |qi hs=>exact .qi (hs.mono h)
 |lJ hs=>exact .lJ (hs.mono h)
 |mE hs=>exact .mE (hs.mono h)
 |mW hs=>exact .mW (hs.mono h)
 |any v=>exact .any v
theorem aJ.mono{g g':G}(h:g.le g'){vs:List Value}{xs:List AV}(k:aJ g vs xs):aJ g' vs xs:=by
 cases k with
 |nil=>exact .nil
 |cons h1 hs=>exact .cons (h1.mono h) (hs.mono h)
end
theorem aJ.length{g:G}:∀{vs:List Value} {xs:List AV},aJ g vs xs->vs.length=xs.length
 |[],[],_=>rfl
 |_::_,_::_,.cons _ hs=>by simp[hs.length]
theorem aJ.get{g:G}:∀{vs:List Value} {xs:List AV},aJ g vs xs->∀{i:Nat} {x:AV},xs[i]?=some x->∃v,vs[i]?=some v/\aX g v x
 |_,_,.nil,_,_,h=>by simp at h
 |_,_,.cons (v:=v) h1 hs,0,x,h=>by simp at h;subst h;exact⟨v,by simp,h1⟩
 |_,_,.cons h1 hs,i+1,x,h=>by simp at h;simpa using hs.get h
structure Ob where
 el:TypeId
 sz:Nat
 xs:List AV
structure Tb where
 bx:List (Nat×Ob)
 rw:List (Nat×TypeId×Nat)
 nx:Nat
structure AS where
 sl:Nat->AV
 tb:Tb
def lk{α:Type}(t:Nat):List (Nat×α)->Option α
 |[]=>none
 |(k,v)::l=>if t=k then some v else lk t l
def del{α:Type}(t:Nat):List (Nat×α)->List (Nat×α)
 |[]=>[]
 |(k,v)::l=>if t=k then del t l else(k,v)::del t l
theorem cu{α:Type}(t u:Nat):∀(l:List (Nat×α)),lk u (del t l)=if u=t then none else lk u l
 |[]=>by simp[lk,del]
 |(k,v)::l=>by
  simp only[del];split
  ·rename_i e;subst e;rw[cu t u l];simp only[lk];split<;>rfl
  ·rename_i e;simp only[lk];rw[cu t u l];by_cases hu:u=k
   ·subst hu;rw[if_pos rfl,if_neg (fun h=>e h.symm),if_pos rfl]
   ·rw[if_neg hu];by_cases ht:u=t
    ·rw[if_pos ht,if_pos ht]
    ·rw[if_neg ht,if_neg ht,if_neg hu]
def u9(f:Nat->AV)(d:Nat)(x:AV):Nat->AV:=fun t=>if t=d then x else f t
theorem M1(f:Nat->AV){d e:Nat}(x y:AV)(h:d≠e):u9 (u9 f d x) e y=u9 (u9 f e y) d x:=by
 funext t;simp only[u9];split<;>split<;>simp_all
def eL(sl:Nat->AV)(dst:Option Tmp)(x:AV):Nat->AV:=match dst with
 |some d=>u9 sl d x
 |none=>sl
def AS.put(st:AS)(dst:Option Tmp)(x:AV):AS:=⟨eL st.sl dst x,st.tb⟩
def c1:Value->PC
 | .slice none 0 0=> .nil
 |v=> .sc v
def evC:Value->AV
 | .agg cs=>if cs.toList.all (·.oneCell')then .p (.agg false (cs.toList.map c1))else .any
 | .tuple _=> .any
 |v=> .p (c1 v)
def bE(sl:Nat->AV):Operand->AV
 | .tmp t=>sl t
 | .const v=>evC v
 | .func f=> .p (.fn (.func f) [])
 | .global _=> .any
theorem M3(M:Mem)(v:Value)(h:v.oneCell'=true):gO M v (c1 v):=by
 unfold c1;split
 ·exact .nil
 ·exact .sc _ h
theorem tI(M:Mem):∀(vs:List Value),(∀v∈vs,v.oneCell'=true)->cJ M vs (vs.map c1)
 |[],_=> .nil
 |v::vs,h=> .cons (M3 M v (h v (by simp))) (tI M vs fun u hu=>h u (by simp[hu]))
theorem M4(g:G)(v:Value):aX g v (evC v):=by
 unfold evC;split
 ·rename_i cs;split
  ·rename_i h;have h':∀v∈cs.toList,v.oneCell'=true:=List.all_eq_true.1 h;have:=gO.agg (tI g.M cs.toList h') h';exact .p (by simpa using this)
  ·exact .any _
 ·exact .any _
 ·rename_i h1 h2;exact .p (M3 _ _ (by cases v<;>simp_all [Value.oneCell']))
def mb:List Nat:=[0x00000000,0x1DB71064,0x3B6E20C8,0x26D930AC,0x76DC4190,0x6B6B51F4,0x4DB26158,0x5005713C,0xEDB88320,0xF00F9344,0xD6D6A3E8,0xCB61B38C,0x9B64C2B0,0x86D3D2D4,0xA00AE278,0xBDBDF21C]
def Wz(M:Mem):Prop:=∀j n,mb[j]?=some n->M 0 j=some (.int .u32 (n:Nat))
structure gB(w:World)(M:Mem):Prop where
 app:∀b o v,M b o=some v->w.cell? ⟨b,o,none⟩=some v
 g:Wz M
instance{w:World}{M:Mem}:CoeFun (gB w M) (fun _=>∀b o v,M b o=some v->w.cell? ⟨b,o,none⟩=some v):=⟨gB.app⟩
theorem Wz.mono{M N:Mem}(h:Wz M)(hM:M.le N):Wz N:=fun j n e=>hM _ _ _ (h j n e)
theorem gB.lt{w:World}{M:Mem}(h:gB w M){b o:Nat}{v:Value}(e:M b o=some v):b<w.heap.size:=World.block_lt_of_cell? w ⟨b,o,none⟩ (h b o v e)
structure sA(F:Nat->Prop)(w w':World):Prop where
 os:w'.os=w.os
 tape:w'.tape=w.tape
 output:w'.output=w.output
 size:w.heap.size<=w'.heap.size
 block:∀k,k<w.heap.size->¬F k->w'.heap[k]?=w.heap[k]?
theorem sA.refl(F:Nat->Prop)(w:World):sA F w w:=⟨rfl,rfl,rfl,Nat.le_refl _,fun _ _ _=>rfl⟩
theorem sA.M5{F:Nat->Prop}{w w':World}(h:Below w.heap.size w w'):sA F w w':=⟨h.os,h.tape,h.output,h.size,fun k hk _=>h.block k hk⟩
theorem sA.trans{F F':Nat->Prop}{a b c:World}(h:sA F a b)(k:sA F' b c)(hF:∀n,n<a.heap.size->F' n->F n):sA F a c:=⟨k.os.trans h.os,k.tape.trans h.tape,k.output.trans h.output,Nat.le_trans h.size k.size,fun i hi hn=>
 (k.block i (Nat.lt_of_lt_of_le hi h.size) fun hf=>hn (hF i hi hf)).trans (h.block i hi hn)⟩
def dZ:Value->Option Nat
 | .slice (some a) n c=>if n<c then some a.block else none
 |_=>none
def frM:Nat:=1000000
def Qr(el t n:Nat)(fz:Nat×Nat):Prop:=(t=el/\fz=(0,0))\/(el=t+frM/\n<=fz.1)
theorem Qr.low{el t n:Nat}{fz:Nat×Nat}(h:Qr el t n fz)(hl:el<frM):t=el/\fz=(0,0):=by
 rcases h with h|⟨h,_⟩
 ·exact h
 ·omega
theorem Qr.fz{el t n:Nat}{fz:Nat×Nat}(h:Qr el t n fz):fz=(0,0)\/n<=fz.1:=h.imp (·.2) (·.2)
def M6(B:Nat)(F:Nat->Prop)(g:G)(w:World)(id:Nat)(o:Ob):Prop:=∃b c,g.ob id=some (b,c)/\(0<c->∃cur,(B<=b\/F b)/\(∀off,g.M b off=none)/\(∃t fz,w.heap[b]?=some (.cells cur t fz)/\Qr o.el t cur.size fz)/\c*o.sz<=cur.size/\c<=maxLen/\o.xs.length<=cur.size/\aJ g (cur.toList.take o.xs.length) o.xs/\∀v∈cur.toList,v.oneCell'=true)/\(c=0->o.xs=[])
theorem M6.real{B:Nat}{F:Nat->Prop}{g:G}{w:World}{id:Nat}{o:Ob}(h:M6 B F g w id o){b c:Nat}(he:g.ob id=some (b,c))(hc:0<c):∃cur,(B<=b\/F b)/\(∀off,g.M b off=none)/\(∃t fz,w.heap[b]?=some (.cells cur t fz)/\Qr o.el t cur.size fz)/\c*o.sz<=cur.size/\c<=maxLen/\o.xs.length<=cur.size/\aJ g (cur.toList.take o.xs.length) o.xs/\∀v∈cur.toList,v.oneCell'=true:=by
 obtain⟨b',c',h1,h2,_⟩:=h;rw[h1]at he;injection he with he;injection he with e1 e2;subst e1;subst e2;exact h2 hc
theorem M6.pos{B:Nat}{F:Nat->Prop}{g:G}{w:World}{id:Nat}{o:Ob}(h:M6 B F g w id o){b c:Nat}(he:g.ob id=some (b,c))(hx:o.xs≠[]):0<c:=by
 obtain⟨b',c',h1,_,h2⟩:=h;rw[h1]at he;injection he with he;injection he with e1 e2;subst e1;subst e2;exact Nat.pos_of_ne_zero fun h0=>hx (h2 h0)
def aiR(B:Nat)(F:Nat->Prop)(g:G)(w:World)(id:Nat)(el:TypeId)(sz:Nat):Prop:=∃v,g.rv id=some v/\((∃a n,v= .slice a n n)\/∃b n cap cur,v= .slice (some ⟨b,0,none⟩) n cap/\(B<=b\/F b)/\(∃t fz,w.heap[b]?=some (.cells cur t fz)/\Qr el t cur.size fz)/\cap*sz<=cur.size/\n<cap/\cap<=maxLen/\0<sz/\At g.M b 0 (cur.toList.take (n*sz))/\∀o v,g.M b o=some v->o<n*sz)
structure aQ(w0:World)(M0:Mem)(F:Nat->Prop)(tb:Tb)(g:G)(w:World):Prop where
 holds:gB w g.M
 keep:sA F w0 w
 old:∀b,b<w0.heap.size->¬F b->g.M b=M0 b
 Dm:M0.le g.M
 boxes:∀id o,lk id tb.bx=some o->M6 w0.heap.size F g w id o
 rows:∀id el sz,lk id tb.rw=some (el,sz)->aiR w0.heap.size F g w id el sz
 f_:∀i j o p b c b' c',lk i tb.bx=some o->lk j tb.bx=some p->i≠j->g.ob i=some (b,c)->g.ob j=some (b',c')->0<c->0<c'->b≠b'
 ia:∀i j r s u v b,lk i tb.rw=some r->lk j tb.rw=some s->i≠j->g.rv i=some u->g.rv j=some v->dZ u=some b->dZ v≠some b
 fj:∀i j o r b c v,lk i tb.bx=some o->lk j tb.rw=some r->g.ob i=some (b,c)->g.rv j=some v->0<c->dZ v≠some b
 fresh:∀i,tb.nx<=i->g.ob i=none/\g.rv i=none
def JE(sl:Nat->AV)(g:G)(a:Act):Prop:=∀t,aX g (a.tmps.getD t undef) (sl t)
def G.with(g:G)(M:Mem):G:={g with M}
theorem G.oN{g:G}{N:Mem}(h:g.M.le N):g.le (g.with N):=⟨h,fun _ _ h=>h,fun _ _ h=>h⟩
theorem iZ{sl:Nat->AV}{g:G}{a:Act}(x:Operand)(h:∀t,x= .tmp t->aX g (a.tmps.getD t undef) (sl t)):aX g (a.eval x) (bE sl x):=by
 cases x with
 |tmp t=>exact h t rfl
 |const v=>exact M4 g v
 |func f=>exact .p (.fn (vs:=[]) .nil)
 |global n=>exact .any _
theorem qQ{w:World}{b:Nat}{o:Obj}(h:w.heap[b]?=some o):b<w.heap.size:=(Array.getElem?_eq_some_iff.1 h).1
theorem aQ.drew{w0:World}{M0:Mem}{F:Nat->Prop}{tb:Tb}{g:G}{w:World}(h:aQ w0 M0 F tb g w):aQ w0 M0 F tb g w.drew:=⟨⟨h.holds.app,h.holds.g⟩,⟨h.keep.os,h.keep.tape,h.keep.output,h.keep.size,h.keep.block⟩,h.old,h.Dm,h.boxes,h.rows,h.f_,h.ia,h.fj,h.fresh⟩
theorem aQ.later{w0:World}{M0:Mem}{F:Nat->Prop}{tb:Tb}{g:G}{w w':World}{N:Mem}(h:aQ w0 M0 F tb g w)(hM:g.M.le N)(hH:gB w' N)(hO:∀b,b<w.heap.size->N b=g.M b)(hB:Below w.heap.size w w'):aQ w0 M0 F tb (g.with N) w':=by
 refine⟨hH,h.keep.trans (F':=fun _=>False) (sA.M5 hB) (fun _ _ hf=>hf.elim),fun b hb hf=>?_,h.Dm.trans hM,fun id o e=>?_,fun id el sz e=>?_,h.f_,h.ia,h.fj,h.fresh⟩
 ·exact(hO b (Nat.lt_of_lt_of_le hb h.keep.size)).trans (h.old b hb hf)
 ·obtain⟨b,c,h1,hr,h0⟩:=h.boxes id o e;refine⟨b,c,h1,fun hc=>?_,h0⟩;obtain⟨cur,h2,h3,⟨tt,fz,h4,fo⟩,h5,h6,h7,h8,h9⟩:=hr hc;have hb:=qQ h4;exact⟨cur,h2,fun o=>by show N b o=none;rw[hO _ hb];exact h3 o,⟨tt,fz,(hB.block _ hb).trans h4,fo⟩,h5,h6,h7,h8.mono (G.oN hM),h9⟩
 ·obtain⟨v,h1,h2⟩:=h.rows id el sz e;refine⟨v,h1,h2.imp (fun h=>h) ?_⟩;rintro⟨b,n,cap,cur,h3,h4,⟨tt,fz,h5,fo⟩,h6,h7,h8,h9,h10,h11⟩;have hb:=qQ h5;exact⟨b,n,cap,cur,h3,h4,⟨tt,fz,(hB.block _ hb).trans h5,fo⟩,h6,h7,h8,h9,h10.mono hM,fun o v e=>by have e':N b o=some v:=e;rw[hO _ hb]at e';exact h11 o v e'⟩
end Go.Av
namespace Go.Av
open Go.RowKit
def AV.pc:AV->Option PC
 | .p x=>some x
 | .own _ xs=>some (.sl xs)
 | .full xs=>some (.sl xs)
 | .nn xs=>some (.sl xs)
 | .agg t xs=>match ga xs with
  |some ys=>some (.agg t ys)
  |none=>none
 |_=>none
where ga:List AV->Option (List PC)
 |[]=>some []
 |x::l=>match x.pc,ga l with
  |some y,some ys=>some (y::ys)
  |_,_=>none
def AV.nm(x:AV):AV:=match x.pc with
 |some y=> .p y
 |none=>x
mutual
theorem oX{g:G}{v:Value}{x:AV}(h:aX g v x)(y:PC)(e:x.pc=some y):gO g.M v y:=by
 cases h with
 |p h1=>simp only[AV.pc,Option.some.injEq]at e;subst e;exact h1
 |obj _=>simp[AV.pc]at e
 |own _ hr=>simp only[AV.pc,Option.some.injEq]at e;subst e;exact hr
 |full hr=>simp only[AV.pc,Option.some.injEq]at e;subst e;exact hr
 |nn hr=>simp only[AV.pc,Option.some.injEq]at e;subst e;exact hr
 |view _ _ _ _ _=>simp[AV.pc]at e
 |lJ _=>simp[AV.pc]at e
 |mE _=>simp[AV.pc]at e
 |mW _=>simp[AV.pc]at e
 |agg hs h1=>
  simp only[AV.pc]at e;split at e
  ·rename_i ys he;injection e with e;subst e;exact .agg (zI hs ys he) h1
  ·cases e
 |qi hs=>
  simp only[AV.pc]at e;split at e
  ·rename_i ys he;injection e with e;subst e;exact .qi (zI hs ys he)
  ·cases e
 |any _=>simp[AV.pc]at e
theorem zI{g:G}{vs:List Value}{xs:List AV}(h:aJ g vs xs)(ys:List PC)(e:AV.pc.ga xs=some ys):cJ g.M vs ys:=by
 cases h with
 |nil=>simp only[AV.pc.ga,Option.some.injEq]at e;subst e;exact .nil
 |cons h1 hs=>
  simp only[AV.pc.ga]at e;split at e
  ·rename_i y ys' e1 e2;injection e with e;subst e;exact .cons (oX h1 y e1) (zI hs ys' e2)
  ·cases e
end
theorem bP{g:G}{v:Value}{x:AV}(h:aX g v x):aX g v x.nm:=by
 unfold AV.nm;split
 ·rename_i y e;exact .p (oX h y e)
 ·exact h
section
variable(P:Program)(sl:Nat->AV)(o:Oper)
def cP(x:AV):Prop:=∀(w0:World) (M0:Mem) (F:Nat->Prop) (tb:Tb) (g:G) (a:Act) (w:World),aQ w0 M0 F tb g w->(∀t,Operand.tmp t∈o.op.operands->aX g (a.tmps.getD t undef) (sl t))->∀(K:Act->World->Prop) (Q:Exit->Act->World->Prop),(∀v w' N,g.M.le N->aQ w0 M0 F tb (g.with N) w'->aX (g.with N) v x->K (a.put o.dst v) w')->o.wp P a w K Q
end
section
variable{P:Program}{sl:Nat->AV}{o:Oper}
theorem dx{x:AV}(h:∀(w0:World) (M0:Mem) (F:Nat->Prop) (tb:Tb) (g:G) (a:Act) (w:World),aQ w0 M0 F tb g w->(∀y,y∈o.op.operands->aX g (a.eval y) (bE sl y))->∃v,(execOp a.eval o).run P w= .ok (.value v) w/\aX g v x):cP P sl o x:=by
 intro w0 M0 F tb g a w hw ho K Q hK;obtain⟨v,hr,hv⟩:=h w0 M0 F tb g a w hw (fun y hy=>iZ y fun t e=>ho t (e▸hy));unfold Oper.wp;rw[hr];exact hK v w g.M (Mem.le_refl _) hw hv
theorem bH{x:AV}(h:∀(w0:World) (M0:Mem) (F:Nat->Prop) (tb:Tb) (g:G) (a:Act) (w:World),aQ w0 M0 F tb g w->(∀y,y∈o.op.operands->aX g (a.eval y) (bE sl y).nm)->∃v,(execOp a.eval o).run P w= .ok (.value v) w/\aX g v x):cP P sl o x:=by
 intro w0 M0 F tb g a w hw ho K Q hK;obtain⟨v,hr,hv⟩:=h w0 M0 F tb g a w hw (fun y hy=>bP (iZ y fun t e=>ho t (e▸hy)));unfold Oper.wp;rw[hr];exact hK v w g.M (Mem.le_refl _) hw hv
theorem B6{x:AV}(h:∀(w0:World) (M0:Mem) (F:Nat->Prop) (tb:Tb) (g:G) (a:Act) (w:World),aQ w0 M0 F tb g w->(∀y,y∈o.op.operands->aX g (a.eval y) (bE sl y).nm)->∃v w' N,(execOp a.eval o).run P w= .ok (.value v) w'/\g.M.le N/\gB w' N/\(∀b,b<w.heap.size->N b=g.M b)/\Below w.heap.size w w'/\aX (g.with N) v x):cP P sl o x:=by
 intro w0 M0 F tb g a w hw ho K Q hK;obtain⟨v,w',N,hr,h1,h2,h3,h4,hv⟩:=h w0 M0 F tb g a w hw (fun y hy=>bP (iZ y fun t e=>ho t (e▸hy)));unfold Oper.wp;rw[hr];exact hK v w' N h1 (hw.later h1 h2 h3 h4) hv
end
def dP(P:Program)(f:FuncId):Prop:=∃fn,P.funcs[f]?=some fn/\(fn.name=="runtime.NumGoroutine")=false/\fn.body.isNone=false
def afr(M:Mem)(w:World)(r:PC)(e:Ending)(w':World):Prop:=∃v N,e= .returned v/\gO N v r/\gB w' N/\M.le N/\(∀b,b<w.heap.size->N b=M b)/\Below w.heap.size w w'
def aq(P:Program)(f:FuncId)(xs:List PC)(r:PC):Prop:=dP P f/\∀(M:Mem) (w:World) (vs:List Value),gB w M->cJ M vs xs->Calls P f vs.toArray w (afr M w r)
def bs(s:ByteArray):List UInt8:=s.data.toList
abbrev uN(l:List UInt8):Value:= .string ⟨l.toArray⟩
abbrev PC.str(l:List UInt8):PC:= .sc (uN l)
abbrev PC.int(n:Int):PC:= .sc (.int .i64 n)
abbrev PC.bool(b:Bool):PC:= .sc (.bool b)
abbrev PC.st(xs:List PC):PC:= .agg false xs
abbrev PC.tp(xs:List PC):PC:= .agg true xs
theorem toList_bs(s:ByteArray):s.toList=bs s:=by
 exact ByteArray.toList_eq s
def PC.width:PC->Nat
 | .agg false xs=>xs.length
 |_=>1
def PC.plain:PC->Bool
 | .agg _ _=>false
 |_=>true
theorem qN{M:Mem}{v:Value}{x:PC}(h:gO M v x):v.cells.size=x.width:=by
 cases h with
 |sc v h=>cases v<;>simp_all [Value.cells,PC.width,Value.oneCell']
 |agg hs h1=>simp[Value.cells,PC.width,hs.length]
 |_=>simp[Value.cells,PC.width]
theorem iI{M:Mem}{v:Value}{x:PC}(h:gO M v x)(hp:x.plain=true):v.cells=#[v]/\v.oneCell'=true:=by
 cases h with
 |sc v h=>cases v<;>simp_all [Value.cells,Value.oneCell']
 |agg hs h1=>simp[PC.plain]at hp
 |qi hs=>simp[PC.plain]at hp
 |_=>simp[Value.cells,Value.oneCell']
def bL(P:Program)(t:TypeId):Option Bool:=match P.underlying t with
 |some (.struct _)|some (.array _ _)=>some true
 |some _=>some false
 |none=>none
def aO(P:Program)(t:TypeId):Option Nat:=(P.info? t).map (·.size)
def di(P:Program)(t:TypeId)(i:Nat):Option (Nat×Nat×Bool):=match P.underlying t with
 |some (.struct fs)=>match fs[i]? with
  |some f=>match aO P f.type,bL P f.type with
   |some s,some a=>some (f.offset,s,a)
   |_,_=>none
  |none=>none
 |_=>none
def aH(P:Program)(t:TypeId):Option Nat:=match P.underlying t with
 |some (.slice e)=>aO P e
 |_=>none
def ic(P:Program)(t:TypeId):Option (Nat×Nat×Bool):=match P.underlying t with
 |some (.array m e)=>match aO P e,bL P e with
  |some s,some a=>some (m,s,a)
  |_,_=>none
 |_=>none
def isStr(P:Program)(t:TypeId):Bool:=match P.underlying t with|some .string=>true|_=>false
def isBool(P:Program)(t:TypeId):Bool:=match P.underlying t with|some .bool=>true|_=>false
def isSome(P:Program)(t:TypeId):Bool:=(P.underlying t).isSome
def intOf(P:Program)(t:TypeId):Option IntKind:=match P.underlying t with|some (.int k)=>some k|_=>none
def dR(P:Program)(t:TypeId):Bool:=match P.underlying t with|some (.slice e)=>(match P.underlying e with|some (.int .u8)=>true|_=>false)|_=>false
def isIface(P:Program)(t:TypeId):Bool:=match P.underlying t with|some (.interface _)=>true|_=>false
def fits(P:Program)(t:TypeId):PC->Bool
 | .agg false xs=>bL P t==some true&&aO P t==some xs.length
 | .agg true _=>false
 |_=>bL P t==some false
def part(off size:Nat)(a:Bool)(xs:List PC):Option PC:=if a then(if off+size<=xs.length then some (.agg false ((xs.drop off).take size))else none)else if size=1 then xs[off]? else none
def iC(P:Program)(op:BinOp)(t:TypeId)(k:Value->Prop):Value->Value->Prop
 | .int c x,.int d y=>
  match op with
  | .shl=>0<=y/\k (.int c (c.wrap (x*2^min y.toNat c.bits)))
  | .shr=>0<=y/\k (.int c (x.fdiv (2^min y.toNat c.bits)))
  |_=>c=d/\(match op with
   | .add=>k (.int c (c.wrap (x+y)))
   | .sub=>k (.int c (c.wrap (x-y)))
   | .mul=>k (.int c (c.wrap (x*y)))
   | .quo=>y≠0/\k (.int c (c.wrap (x.tdiv y)))
   | .rem=>y≠0/\k (.int c (x.tmod y))
   | .and=>k (.int c (bits .and c x y))
   | .or=>k (.int c (bits .or c x y))
   | .xor=>k (.int c (bits .xor c x y))
   | .andNot=>k (.int c (bits .andNot c x y))
   | .eql=>k (.bool (x==y))
   | .neq=>k (.bool (x !=y))
   | .lss=>k (.bool (decide (x<y)))
   | .leq=>k (.bool (decide (x<=y)))
   | .gtr=>k (.bool (decide (y<x)))
   | .geq=>k (.bool (decide (y<=x)))
   |_=>False)
 | .string x,.string y=>
  match op with
  | .add=>(bs x).length+(bs y).length<=9223372036854775807/\k (uN (bs x++bs y))
  | .eql=>k (.bool (bs x==bs y))
  | .neq=>k (.bool (bs x !=bs y))
  | .lss=>k (.bool (Op.bytesLess (bs x) (bs y)))
  | .leq=>k (.bool (Op.bytesLess (bs x) (bs y)||bs x==bs y))
  | .gtr=>k (.bool !(Op.bytesLess (bs x) (bs y)||bs x==bs y))
  | .geq=>k (.bool !(Op.bytesLess (bs x) (bs y)))
  |_=>False
 | .bool x,.bool y=>
  isBool P t=true/\match op with
  | .eql=>k (.bool (x==y))
  | .neq=>k (.bool (x !=y))
  |_=>False
 |_,_=>False
def af(l:List UInt8):List PC:=l.map fun b=> .sc (.int .u8 b.toNat)
def dV:List AV->Option (List PC)
 |[]=>some []
 | .p x::l=>match dV l with|some r=>some (x::r)|none=>none
 |_::_=>none
def PC.Qs:PC->PC
 | .nil=> .sl []
 |x=>x
def PC.wk:PC->PC
 | .nil=> .sl []
 | .agg b xs=> .agg b (xs.map PC.Qs)
 |x=>x
def uX(P:Program)(t:TypeId)(k:AV->Prop):AV->Prop
 | .p (.sc (.string s))=>isStr P t=true/\k (.p (.int (bs s).length))
 | .p .nil=>(aH P t).isSome=true/\k (.p (.int 0))
 | .p (.sl xs)=>(aH P t).isSome=true/\k (.p (.int xs.length))
 |_=>False
def pO(d:Nat):Option AV->Option Nat
 |none=>some d
 |some (.p (.sc (.int _ i)))=>some i.toNat
 |_=>none
def pP:Option AV->Prop
 |some (.p (.sc (.int _ i)))=>0<=i
 |_=>True
def BW(n:Nat)(lo hi:Option AV)(k:Nat->Nat->Prop):Prop:=match pO 0 lo,pO n hi with
 |some l,some h=>pP lo/\pP hi/\l<=h/\h<=n/\k l h
 |_,_=>False
def zC(P:Program)(g:FuncId)(xs:List PC)(k:AV->Prop):Prop:=∃r,aq P g xs r/\k (.p r)
def tu(k:AV->Prop)(x y:AV):AV->Prop
 | .p (.sc (.bool t))=>k (if t=true then x else y)
 |_=>False
def Jp(k:AV->Prop):AV->Prop
 | .p y=>k (.p (.ref y))
 |_=>False
def vW(P:Program)(t:TypeId)(k:AV->Prop):AV->Prop
 | .p (.ref y)=>fits P t y=true/\k (.p y)
 |_=>False
def oO(P:Program)(t:TypeId)(i:Nat)(k:AV->Prop):AV->Prop
 | .p (.ref (.agg false xs))=>match di P t i with
  |some (off,s,a)=>match part off s a xs with
   |some y=>s≠0/\k (.p (.ref y))
   |none=>False
  |none=>False
 |_=>False
def yo(P:Program)(t:TypeId)(i:Nat)(k:AV->Prop):AV->Prop
 | .p (.agg false xs)=>match di P t i with
  |some (off,s,a)=>match part off s a xs with
   |some y=>k (.p y)
   |none=>False
  |none=>False
 |_=>False
def eY(P:Program)(t:TypeId)(k:AV->Prop):AV->AV->Prop
 | .p (.sl xs),.p (.sc (.int _ n))=>0<=n/\match xs[n.toNat]? with
  |some y=>aH P t=some y.width/\k (.p (.ref y))
  |none=>False
 | .p (.ref (.agg false xs)),.p (.sc (.int _ n))=>match ic P t with
  |some (m,s,a)=>0<=n/\n<(m:Int)/\(match part (n.toNat*s) s a xs with
   |some y=>k (.p (.ref y))
   |none=>False)
  |none=>False
 |_,_=>False
def sw(P:Program)(t:TypeId)(k:AV->Prop):AV->AV->Prop
 | .p (.sc (.string s)),.p (.sc (.int _ n))=>0<=n/\isStr P t=true/\match(bs s)[n.toNat]? with
  |some c=>k (.p (.sc (.int .u8 c.toNat)))
  |none=>False
 | .p (.agg false xs),.p (.sc (.int _ n))=>match ic P t with
  |some (m,s,a)=>0<=n/\n<(m:Int)/\(match part (n.toNat*s) s a xs with
   |some y=>k (.p y)
   |none=>False)
  |none=>False
 |_,_=>False
def gR(P:Program)(t:TypeId)(lo hi:Option AV)(k:AV->Prop):AV->Prop
 | .p (.sc (.string s))=>isStr P t=true/\BW (bs s).length lo hi fun l h=>k (.p (.str (((bs s).take h).drop l)))
 | .p (.sl xs)=>(aH P t).isSome=true/\(∀y∈xs,aH P t=some y.width)/\BW xs.length lo hi fun l h=>k (.p (.sl ((xs.take h).drop l)))
 |_=>False
def bC(P:Program)(op:BinOp)(t:TypeId)(k:AV->Prop):AV->AV->Prop
 | .p (.sc a),.p (.sc b)=>iC P op t (fun v=>k (.p (.sc v))) a b
 |_,_=>False
def tv(op:UnOp)(k:AV->Prop):AV->Prop
 | .p (.sc (.bool b))=>op= .not/\k (.p (.bool !b))
 | .p (.sc (.int c n))=>(op= .neg/\k (.p (.sc (.int c (c.wrap (0-n))))))\/(op= .xor/\k (.p (.sc (.int c (bits .xor c (if c.signed then-1 else c.max) n)))))
 |_=>False
def oh(P:Program)(src dst:TypeId)(k:AV->Prop):AV->Prop
 | .p (.sc (.int _ n))=>Av.isSome P src=true/\match Av.intOf P dst with
  |some c=>k (.p (.sc (.int c (c.wrap n))))
  |none=>False
 | .p (.sc (.string s))=>Av.isSome P src=true/\if isStr P dst=true then k (.p (.str (bs s)))else dR P dst=true/\isStr P src=true/\(bs s).length<=9223372036854775807/\k (.p (.sl (af (bs s))))
 | .p .nil=>dR P src=true/\isStr P dst=true/\k (.p (.str []))
 | .p (.sl xs)=>dR P src=true/\isStr P dst=true/\∃l,xs=af l/\k (.p (.str l))
 |_=>False
def MA(P:Program)(t:TypeId)(k:AV->Prop):AV->Prop
 | .p (.sc v)=>Av.isSome P t=true/\isIface P t=false/\k (.p (.sc (.iface t v)))
 |_=>False
def sx(P:Program)(t:TypeId)(k:AV->Prop):AV->Prop
 | .obj id off=>Av.isSome P t=true/\isIface P t=false/\k (.mW t (.obj id off))
 |x=>MA P t k x.nm
def Wm(f:Fn)(k:AV->Prop)(ys:List AV):Option (List PC)->Prop
 |some xs=>k (.p (.fn f xs))
 |none=>k (.lJ f ys)
def ql(i:Nat)(k:AV->Prop):AV->Prop
 | .p (.agg true xs)=>match xs[i]? with
  |some y=>k (.p y)
  |none=>False
 |_=>False
def MB(k:AV->Prop):AV->Prop
 | .p (.ref y)=>k (.p (.ref y))
 | .p (.fn (.func f) xs)=>k (.p (.fn (.func f) xs))
 |_=>False
def saA(k:AV->Prop)(xs:List PC):Option (Nat×Nat×Bool)->Prop
 |some (m,s,_)=>s=1/\0<m/\m<=xs.length/\(∀y∈xs,y.plain=true)/\k (.p (.ref (.agg false (xs.take m))))
 |none=>False
def saW(P:Program)(t:TypeId)(k:AV->Prop):AV->Prop
 | .p (.sl xs)=>saA k xs (ic P t)
 |_=>False
def F0(k:AV->Prop):List AV->Prop
 |[.p (.sc (.int a x)),.p (.sc (.int b y))]=>a=b/\k (.p (.sc (.int a (if y<x then y else x))))
 |_=>False
def F3(k:AV->Prop):List AV->Prop
 |[.p (.sc (.int a x)),.p (.sc (.int b y))]=>a=b/\k (.p (.sc (.int a (if y>x then y else x))))
 |_=>False
def uY(P:Program)(k:AV->Prop)(xs:Option (List PC)):AV->Prop
 | .p (.fn (.func g) caps)=>match xs with
  |some xs=>zC P g (xs.map PC.wk++caps) k
  |none=>False
 |_=>False
def Uu(P:Program)(t:TypeId)(i:Nat)(k:AV->Prop):AV->Prop
 | .obj id off=>match di P t i with
  |some (o,s,_)=>s≠0/\k (.obj id (off+o))
  |none=>False
 |x=>oO P t i k x.nm
def Jo(P:Program)(op:Op)(e:Operand->AV)(k:AV->Prop):Prop:=match op with
 | .move x| .assign x=>k (e x)
 | .pick c a b=>tu k (e a) (e b) (e c).nm
 | .box _ x=>Jp k (e x).nm
 | .load t x=>vW P t k (e x).nm
 | .fieldAddr t x i=>Uu P t i k (e x)
 | .field t x i=>yo P t i k (e x).nm
 | .indexAddr t x i=>eY P t k (e x).nm (e i).nm
 | .index t x i=>sw P t k (e x).nm (e i).nm
 | .slice t x lo hi none=>gR P t (lo.map fun y=>(e y).nm) (hi.map fun y=>(e y).nm) k (e x).nm
 | .binOp op t x y _=>bC P op t k (e x).nm (e y).nm
 | .unOp op _ x=>tv op k (e x).nm
 | .convert src dst x=>oh P src dst k (e x).nm
 | .makeInterface t x=>sx P t k (e x)
 | .makeFunc f fs cs=>(fs=#[]/\Wm f k (cs.toList.map e) (dV (cs.toList.map fun y=>(e y).nm)))\/(fs≠#[]/\cs=#[]/\k (.mE f (fs.toList.map e)))
 | .extract x i=>ql i k (e x).nm
 | .nilCheck x=>MB k (e x).nm
 | .sliceToArrayPointer t x=>saW P t k (e x).nm
 | .call c=>match c.callee with
  | .builtin .len=>c.args.size=1/\c.argTypes.size=1/\uX P (c.argTypes.getD 0 0) k (e (c.args.getD 0 (.tmp 0))).nm
  | .builtin .min=>F0 k (c.args.toList.map fun y=>(e y).nm)
  | .builtin .max=>F3 k (c.args.toList.map fun y=>(e y).nm)
  | .builtin _=>False
  | .value f=>uY P k (dV (c.args.toList.map fun y=>(e y).nm)) (e f).nm
  | .invoke _ _=>False
 |_=>False
def opW(P:Program)(o:Oper)(e:Operand->AV)(k:AV->Prop):Prop:=Jo P o.op e k
end Go.Av
namespace Go.Av
open Go.RowKit
section
variable{P:Program}
theorem gJ{t:TypeId}{a:Bool}(h:bL P t=some a)(w:World):(Go.isAgg t).run P w= .ok a w:=by
 unfold bL at h;unfold Go.isAgg;cases hU:P.underlying t with
 |none=>rw[hU]at h;cases h
 |some d=>
  rw[hU]at h;cases d<;>simp at h<;>subst h<;>simp[run_underlying hU]
theorem run_sizeOf{t:TypeId}{s:Nat}(h:aO P t=some s)(w:World):(sizeOf t).run P w= .ok s w:=by
 unfold aO at h;cases hi:P.info? t with
 |none=>rw[hi]at h;cases h
 |some i=>rw[hi]at h;simp at h;subst h;simp[sizeOf,typeInfo,hi]
theorem Fa{w:World}{M:Mem}{b off:Nat}{vs:List Value}(hH:gB w M)(hat:At M b off vs):∀j v,vs[j]?=some v->w.cell? ((⟨b,off,none⟩:Addr).add j)=some v:=fun j v h=>by
 rw[Addr.add_lit];exact hH _ _ _ (hat j v h)
theorem pJ{t:TypeId}{x:PC}{u:Value}{M:Mem}{w:World}{b off:Nat}(hf:fits P t x=true)(hr:gO M u x)(hat:At M b off u.cells.toList)(hH:gB w M):(loadVar t ⟨b,off,none⟩).run P w= .ok u w:=by
 have pl:x.plain=true->(bL P t=some false)->(loadVar t ⟨b,off,none⟩).run P w= .ok u w:=fun hp ha=>by
  obtain⟨hc,_⟩:=iI hr hp;have h0:=Fa hH hat 0 u (by rw[hc];rfl);rw[Addr.add_lit,Nat.add_zero]at h0;simp[loadVar,gJ ha,load,Sem.run,h0]
 cases x with
 |agg b' xs=>
  cases b' with
  |true=>simp[fits]at hf
  |false=>
   simp only[fits,Bool.and_eq_true,beq_iff_eq]at hf;cases hr with
   |agg hs h1=>
    rename_i vs;have hl:=hs.length;have:=run_loadCells_list (P:=P) w ⟨b,off,none⟩ vs (fun j v h=>by
     have:=Fa hH hat j v (by simpa[Value.cells]using h);exact this)
    simp[loadVar,gJ hf.1,run_sizeOf hf.2,<-hl,this]
 |sc v=>exact pl rfl (by simpa[fits]using hf)
 |nil=>exact pl rfl (by simpa[fits]using hf)
 |sl v=>exact pl rfl (by simpa[fits]using hf)
 |ref v=>exact pl rfl (by simpa[fits]using hf)
 |fn f v=>exact pl rfl (by simpa[fits]using hf)
theorem vY{sz:Nat}:∀(us:List Value),(∀u∈us,u.cells.size=sz)->∀(i j:Nat) (u:Value),us[i]?=some u->∀v,u.cells.toList[j]?=some v->(cellsOf us)[i*sz+j]?=some v
 |[],_,_,_,_,h,_,_=>by simp at h
 |a::us,hs,0,j,u,h,v,hv=>by
  simp at h;subst h;simp only[cellsOf,List.flatMap_cons,Nat.zero_mul,Nat.zero_add];have hj:j<a.cells.toList.length:=(List.getElem?_eq_some_iff.1 hv).1;rw[List.getElem?_append_left hj];exact hv
 |a::us,hs,i+1,j,u,h,v,hv=>by
  simp at h;have ha:a.cells.toList.length=sz:=by simpa using hs a (by simp)
  simp only[cellsOf,List.flatMap_cons];rw[List.getElem?_append_right (by rw[ha,Nat.add_mul];omega),ha];have:=vY us (fun u hu=>hs u (by simp[hu])) i j u h v hv;rw[show(i+1)*sz+j-sz=i*sz+j by rw[Nat.add_mul];omega];exact this
theorem cO{sz:Nat}:∀(us:List Value),(∀u∈us,u.cells.size=sz)->(cellsOf us).length=us.length*sz
 |[],_=>by simp[cellsOf]
 |a::us,h=>by
  have:=cO us (fun u hu=>h u (by simp[hu]));simp only[cellsOf,List.flatMap_cons,dU,List.length_cons,Array.length_toList]at this⊢;rw[h a (by simp),this,Nat.add_mul];omega
theorem At.sub{M:Mem}{b off:Nat}{vs ws:List Value}{k:Nat}(h:At M b off vs)(hs:∀(j:Nat) (v:Value),ws[j]?=some v->vs[k+j]?=some v):At M b (off+k) ws:=fun j v e=>by
 rw[Nat.add_assoc];exact h _ _ (hs j v e)
theorem sV{sz:Nat}(us:List Value)(h:∀u∈us,u.cells.size=sz)(n:Nat):∀(j:Nat) (v:Value),(cellsOf (us.take n))[j]?=some v->(cellsOf us)[j]?=some v:=by
 intro j v e;have:cellsOf us=cellsOf (us.take n)++cellsOf (us.drop n):=by
  unfold cellsOf;rw[<-List.flatMap_append,List.take_append_drop]
 rw[this,List.getElem?_append_left (List.getElem?_eq_some_iff.1 e).1];exact e
theorem sW{sz:Nat}(us:List Value)(h:∀u∈us,u.cells.size=sz)(n:Nat)(hn:n<=us.length):∀(j:Nat) (v:Value),(cellsOf (us.drop n))[j]?=some v->(cellsOf us)[n*sz+j]?=some v:=by
 intro j v e;have h1:cellsOf us=cellsOf (us.take n)++cellsOf (us.drop n):=by
  unfold cellsOf;rw[<-List.flatMap_append,List.take_append_drop]
 have h2:(cellsOf (us.take n)).length=n*sz:=by
  rw[cO _ (fun u hu=>h u (jH hu)),List.length_take,Nat.min_eq_left hn]
 rw[h1,List.getElem?_append_right (by omega),h2];simpa using e
theorem tE{M:Mem}{vs:List Value}{xs:List PC}(hs:cJ M vs xs)(h1:∀v∈vs,v.oneCell'=true){off s:Nat}{a:Bool}{y:PC}(hp:part off s a xs=some y):∃u,gO M u y/\(∀(j:Nat) (v:Value),u.cells.toList[j]?=some v->vs[off+j]?=some v)/\(if a=true then u= .agg (vs.toArray.extract off (off+s))else vs[off]?=some u):=by
 unfold part at hp;cases a with
 |true=>
  simp only[if_true]at hp;split at hp
  ·rename_i hle;injection hp with hp;subst hp;refine⟨.agg ((vs.drop off).take s).toArray,.agg ((hs.drop off).take s) (fun v hv=>h1 v (List.mem_of_mem_drop (jH hv))),?_,?_⟩
   ·intro j v e;simp only[Value.cells,List.getElem?_take,List.getElem?_drop]at e;split at e
    ·exact e
    ·cases e
   ·simp only[if_true];congr 1;apply Array.ext';simp[List.extract_toArray,List.take_drop]
  ·cases hp
 |false=>
  simp only[Bool.false_eq_true,if_false]at hp;split at hp
  ·obtain⟨u,hu,hr⟩:=hs.get hp;have hone:=h1 u (List.mem_of_getElem? hu);have hc:u.cells=#[u]:=by cases u<;>simp_all [Value.cells,Value.oneCell']
   refine⟨u,hr,?_,by simpa using hu⟩;intro j v e;rw[hc]at e;cases j with
   |zero=>simp at e;subst e;simpa using hu
   |succ j=>simp at e
  ·cases hp
end
section
variable{P:Program}{sl:Nat->AV}{o:Oper}
theorem aZ{g:G}{v:Value}{x:PC}(h:aX g v (.p x)):gO g.M v x:=by cases h;assumption
theorem Mv{x:Operand}(ho:o.op= .move x\/o.op= .assign x):cP P sl o (bE sl x):=dx fun w0 M0 F tb g a w hw h=>⟨a.eval x,by rcases ho with ho|ho<;>simp[execOp,ho],h x (by rcases ho with ho|ho<;>simp[ho,Op.operands])⟩
theorem Wj{c x y:Operand}{t:Bool}(ho:o.op= .pick c x y)(hc:(bE sl c).nm= .p (.sc (.bool t))):cP P sl o (if t=true then bE sl x else bE sl y):=dx fun w0 M0 F tb g a w hw h=>by
 have h1:=bP (h c (by simp[ho,Op.operands]));rw[hc]at h1;have gQ:=aZ h1;generalize hv:a.eval c=v at gQ;cases gQ;refine⟨if t then a.eval x else a.eval y,by simp[execOp,ho,hv,asBool],?_⟩;cases t
 ·exact h y (by simp[ho,Op.operands])
 ·exact h x (by simp[ho,Op.operands])
def Mem.ext(M:Mem)(b:Nat)(cs:List Value):Mem:=fun b' o=>if b'=b then cs[o]? else M b' o
theorem B5{w0:World}{M0:Mem}{F:Nat->Prop}{tb:Tb}{g:G}{w:World}(hw:aQ w0 M0 F tb g w)(cs:List Value)(e:TypeId)(fz:Nat×Nat):g.M.le (g.M.ext w.heap.size cs)/\gB (w.alloc (.cells cs.toArray e fz)) (g.M.ext w.heap.size cs)/\(∀b,b<w.heap.size->g.M.ext w.heap.size cs b=g.M b)/\Below w.heap.size w (w.alloc (.cells cs.toArray e fz))/\At (g.M.ext w.heap.size cs) w.heap.size 0 cs:=by
 have hB:Below w.heap.size w (w.alloc (.cells cs.toArray e fz)):=(Below.refl _ _).alloc (Nat.le_refl _) _;have hle:g.M.le (g.M.ext w.heap.size cs):=fun b o v h=>by
  have:=hw.holds.lt h;unfold Mem.ext;rw[if_neg (by omega)];exact h
 refine⟨hle,⟨fun b o v h=>?_,hw.holds.g.mono hle⟩,fun b hb=>?_,hB,fun j v h=>?_⟩
 ·unfold Mem.ext at h;split at h
  ·rename_i e';subst e';have:(w.alloc (.cells cs.toArray e fz)).heap[w.heap.size]?=some (.cells cs.toArray e fz):=heap_alloc_new w _;unfold World.cell?;rw[this];simpa using h
  ·have hb:=hw.holds.lt h;rw[hB.cell (p:=⟨b,o,none⟩) hb];exact hw.holds b o v h
 ·funext o;unfold Mem.ext;rw[if_neg (by omega)]
 ·unfold Mem.ext;rw[if_pos rfl,Nat.zero_add];exact h
theorem acX{t:TypeId}{x:Operand}{y:PC}(ho:o.op= .box t x)(hx:(bE sl x).nm= .p y):cP P sl o (.p (.ref y)):=B6 fun w0 M0 F tb g a w hw h=>by
 have h1:=h x (by simp[ho,Op.operands]);rw[hx]at h1;have gQ:=aZ h1;obtain⟨e1,e2,e3,e4,e5⟩:=B5 hw (a.eval x).cells.toList t (0,0);refine⟨.pointer (some ⟨w.heap.size,0,none⟩),w.alloc (.cells (a.eval x).cells t),_,?_,e1,by simpa using e2,e3,by simpa using e4,.p (.ref e5 (gQ.mono e1))⟩;simp[execOp,ho,Instr.box,newVar,newRow]
theorem Wk{t:TypeId}{x:Operand}{y:PC}(ho:o.op= .load t x)(hx:(bE sl x).nm= .p (.ref y))(hf:fits P t y=true):cP P sl o (.p y):=bH fun w0 M0 F tb g a w hw h=>by
 have h1:=h x (by simp[ho,Op.operands]);rw[hx]at h1;have gQ:=aZ h1;generalize hv:a.eval x=v at gQ;cases gQ;rename_i b off u hat hr;exact⟨u,by simp[execOp,ho,hv,Instr.loadAt,Instr.sureAddr,pJ hf hr hat hw.holds],.p hr⟩
theorem Dw{t:TypeId}{x:Operand}{i off s:Nat}{ag:Bool}{xs:List PC}{y:PC}(ho:o.op= .fieldAddr t x i)(hx:(bE sl x).nm= .p (.ref (.agg false xs)))(hf:di P t i=some (off,s,ag))(hp:part off s ag xs=some y)(hs:s≠0):cP P sl o (.p (.ref y)):=bH fun w0 M0 F tb g a w hw h=>by
 have h1:=h x (by simp[ho,Op.operands]);rw[hx]at h1;have gQ:=aZ h1;generalize hv:a.eval x=v at gQ;cases gQ;rename_i b bo u hat hr;cases hr with
 |agg pY hone=>
  rename_i vs;obtain⟨u',z8,Fw,_⟩:=tE pY hone hp;refine⟨.pointer (some ⟨b,bo+off,none⟩),?_,.p (.ref (At.sub hat (fun j v e=>by simpa[Value.cells]using Fw j v e)) z8)⟩;unfold di at hf;split at hf
  ·rename_i fs hU;split at hf
   ·rename_i f FX;split at hf
    ·rename_i s' a' hs' Jl;injection hf with hf;obtain⟨rfl,rfl,rfl⟩:=by simpa using hf
     simp[execOp,ho,hv,Instr.fieldAt,run_underlying hU,FX,Instr.sureAddr,fieldPlace,run_sizeOf hs',hs,Addr.add_lit]
    ·cases hf
   ·cases hf
  ·cases hf
theorem tF{t:TypeId}{a:Bool}{s off:Nat}{vs:List Value}{u:Value}(hs:aO P t=some s)(ha:bL P t=some a)(h:if a=true then u= .agg (vs.toArray.extract off (off+s))else vs[off]?=some u)(w:World):(Go.part t vs.toArray off).run P w= .ok u w:=by
 unfold Go.part;cases a with
 |true=>simp only[if_true]at h;subst h;simp[gJ ha,run_sizeOf hs]
 |false=>simp only[Bool.false_eq_true,if_false]at h;simp[gJ ha,h]
theorem Rf{t:TypeId}{x:Operand}{i off s:Nat}{ag:Bool}{xs:List PC}{y:PC}(ho:o.op= .field t x i)(hx:(bE sl x).nm= .p (.agg false xs))(hf:di P t i=some (off,s,ag))(hp:part off s ag xs=some y):cP P sl o (.p y):=bH fun w0 M0 F tb g a w hw h=>by
 have h1:=h x (by simp[ho,Op.operands]);rw[hx]at h1;have gQ:=aZ h1;generalize hv:a.eval x=v at gQ;cases gQ with
 |agg pY hone=>
  rename_i vs;obtain⟨u',z8,_,hu3⟩:=tE pY hone hp;refine⟨u',?_,.p z8⟩;unfold di at hf;split at hf
  ·rename_i fs hU;split at hf
   ·rename_i f FX;split at hf
    ·rename_i s' a' hs' Jl;injection hf with hf;obtain⟨rfl,rfl,rfl⟩:=by simpa using hf
     have:=tF (P:=P) hs' Jl hu3 w;simp[execOp,ho,hv,Instr.field,run_underlying hU,FX,asAgg,this]
    ·cases hf
   ·cases hf
  ·cases hf
theorem Dx{t:TypeId}{x i:Operand}{xs:List PC}{kd:IntKind}{n:Int}{j:Nat}{y:PC}(ho:o.op= .indexAddr t x i)(hx:(bE sl x).nm= .p (.sl xs))(hi:(bE sl i).nm= .p (.sc (.int kd n)))(hn:n=(j:Nat))(hy:xs[j]?=some y)(hsz:aH P t=some y.width):cP P sl o (.p (.ref y)):=bH fun w0 M0 F tb g a w hw h=>by
 have h1:=h x (by simp[ho,Op.operands]);rw[hx]at h1;have gQ:=aZ h1;have h2:=h i (by simp[ho,Op.operands]);rw[hi]at h2;have Ad:=aZ h2;generalize hv:a.eval x=v at gQ;generalize yf:a.eval i=v2 at Ad;cases Ad;cases gQ with
 |cX=>simp at hy
 |rH a=>simp at hy
 |sl hl hc hm hs0 hu h1c hat pY=>
  rename_i b off m cap sz us;obtain⟨u,z8,Fw⟩:=pY.get hy;have hjl:j<us.length:=(List.getElem?_eq_some_iff.1 z8).1;have hw':y.width=sz:=by rw[<-qN Fw];exact hu u (List.mem_of_getElem? z8)
  refine⟨.pointer (some ⟨b,off+j*sz,none⟩),?_,.p (.ref (At.sub hat (fun k v e=>vY us hu j k u z8 v e)) Fw)⟩;unfold aH at hsz;split at hsz
  ·rename_i el hU;have ac7:(0:Int)<=n/\n<(m:Int):=by rw[hn,<-hl];omega
   have aiN:(0:Int)<=(j:Int)/\(j:Int)<(m:Int):=by rw[<-hn];exact ac7
   simp[execOp,ho,hv,yf,hn,Instr.indexAt,asIntOf,run_underlying hU,show j<m by omega,run_sizeOf hsz,hw',Addr.add_lit]
  ·cases hsz
theorem FY{t:TypeId}{x i:Operand}{xs:List PC}{kd:IntKind}{n:Int}{m s:Nat}{ag:Bool}{y:PC}(ho:o.op= .indexAddr t x i)(hx:(bE sl x).nm= .p (.ref (.agg false xs)))(hi:(bE sl i).nm= .p (.sc (.int kd n)))(hf:ic P t=some (m,s,ag))(h0:0<=n)(hn:n<(m:Int))(hp:part (n.toNat*s) s ag xs=some y):cP P sl o (.p (.ref y)):=bH fun w0 M0 F tb g a w hw h=>by
 have h1:=h x (by simp[ho,Op.operands]);rw[hx]at h1;have gQ:=aZ h1;have h2:=h i (by simp[ho,Op.operands]);rw[hi]at h2;have Ad:=aZ h2;generalize hv:a.eval x=v at gQ;generalize yf:a.eval i=v2 at Ad;cases Ad;cases gQ;rename_i b bo u hat hr;cases hr with
 |agg pY hone=>
  rename_i vs;obtain⟨u',z8,Fw,_⟩:=tE pY hone hp;refine⟨.pointer (some ⟨b,bo+n.toNat*s,none⟩),?_,.p (.ref (At.sub hat (fun j v e=>by simpa[Value.cells]using Fw j v e)) z8)⟩;unfold ic at hf;split at hf
  ·rename_i m' e hU;split at hf
   ·rename_i s' a' hs' Jl;injection hf with hf;obtain⟨rfl,rfl,rfl⟩:=by simpa using hf
    simp[execOp,ho,hv,yf,Instr.indexAt,asIntOf,run_underlying hU,Instr.sureAddr,h0,hn,run_sizeOf hs',Addr.add_lit]
   ·cases hf
  ·cases hf
theorem FZ{t:TypeId}{x i:Operand}{xs:List PC}{kd:IntKind}{n:Int}{m s:Nat}{ag:Bool}{y:PC}(ho:o.op= .index t x i)(hx:(bE sl x).nm= .p (.agg false xs))(hi:(bE sl i).nm= .p (.sc (.int kd n)))(hf:ic P t=some (m,s,ag))(h0:0<=n)(hn:n<(m:Int))(hp:part (n.toNat*s) s ag xs=some y):cP P sl o (.p y):=bH fun w0 M0 F tb g a w hw h=>by
 have h1:=h x (by simp[ho,Op.operands]);rw[hx]at h1;have gQ:=aZ h1;have h2:=h i (by simp[ho,Op.operands]);rw[hi]at h2;have Ad:=aZ h2;generalize hv:a.eval x=v at gQ;generalize yf:a.eval i=v2 at Ad;cases Ad;cases gQ with
 |agg pY hone=>
  rename_i vs;obtain⟨u',z8,_,hu3⟩:=tE pY hone hp;refine⟨u',?_,.p z8⟩;unfold ic at hf;split at hf
  ·rename_i m' e hU;split at hf
   ·rename_i s' a' hs' Jl;injection hf with hf;obtain⟨rfl,rfl,rfl⟩:=by simpa using hf
    have:=tF (P:=P) hs' Jl hu3 w;simp[execOp,ho,hv,yf,Instr.index,asIntOf,run_underlying hU,h0,hn,run_sizeOf hs',this]
   ·cases hf
  ·cases hf
theorem Rg{t:TypeId}{x i:Operand}{s:ByteArray}{kd:IntKind}{n:Int}{j:Nat}{c:UInt8}(ho:o.op= .index t x i)(hx:(bE sl x).nm= .p (.sc (.string s)))(hi:(bE sl i).nm= .p (.sc (.int kd n)))(hn:n=(j:Nat))(ht:isStr P t=true)(hc:(bs s)[j]?=some c):cP P sl o (.p (.sc (.int .u8 c.toNat))):=bH fun w0 M0 F tb g a w hw h=>by
 have h1:=h x (by simp[ho,Op.operands]);rw[hx]at h1;have gQ:=aZ h1;have h2:=h i (by simp[ho,Op.operands]);rw[hi]at h2;have Ad:=aZ h2;generalize hv:a.eval x=v at gQ;generalize yf:a.eval i=v2 at Ad;cases Ad;cases gQ;refine⟨.int .u8 c.toNat,?_,.p (.sc _ rfl)⟩;unfold isStr at ht;split at ht
 ·rename_i hU;have hs:s[j]?=some c:=by
   unfold bs at hc;have hj:=(List.getElem?_eq_some_iff.1 hc);obtain⟨hj1,hj2⟩:=hj;rw[getElem?_pos s j (by simpa using hj1)];congr 1
  simp[execOp,ho,hv,yf,hn,Instr.index,asIntOf,run_underlying hU,hs]
 ·cases ht
end
section
variable{P:Program}{sl:Nat->AV}{o:Oper}
theorem mA(s:ByteArray):(bs s).length=s.size:=by simp[bs]
theorem BI(s:ByteArray):uN (bs s)= .string s:=by unfold uN;congr 1
theorem I_(a b:ByteArray):bs (a++b)=bs a++bs b:=by simp[bs]
theorem oL{Um:Bool}{n cap l h:Nat}{lo hi:Option Value}(hlo:match lo with|none=>l=0|some v=>∃k,v= .int k l)(hhi:match hi with|none=>h=n|some v=>∃k,v= .int k h)(h1:l<=h)(h2:h<=cap)(w:World):(Instr.sliceBounds Um n cap lo hi none).run P w= .ok (l,h,cap) w:=by
 unfold Instr.sliceBounds;cases lo with
 |none=>
  simp only at hlo;subst hlo;cases hi with
  |none=>simp only at hhi;subst hhi;simp
  |some v=>obtain⟨k,rfl⟩:=hhi;simp[Instr.sliceBound,asIntOf,show h<=cap by omega]
 |some u=>
  obtain⟨k,rfl⟩:=hlo;cases hi with
  |none=>simp only at hhi;subst hhi;simp[Instr.sliceBound,asIntOf,h1]
  |some v=>obtain⟨k',rfl⟩:=hhi;simp[Instr.sliceBound,asIntOf,show h<=cap by omega,h1]
theorem nt{g:G}{a:Act}{lo:Option Operand}{l d:Nat}(hr:∀y,lo=some y->aX g (a.eval y) ((bE sl y).nm))(h:match lo.map (fun y=>(bE sl y).nm)with|none=>l=d|some (.p (.sc (.int _ i)))=>i=(l:Int)|_=>False):match lo.map a.eval with|none=>l=d|some v=>∃k,v= .int k l:=by
 cases lo with
 |none=>simpa using h
 |some y=>
  simp only[Option.map_some]at h⊢;have hy:=hr y rfl;split at h
  ·rename_i hh;simp at hh
  ·rename_i k i hh;simp only[Option.some.injEq]at hh;rw[hh]at hy;have:=aZ hy;generalize a.eval y=v at this;cases this;exact⟨_,by rw[h]⟩
  ·exact h.elim
theorem LO{t:TypeId}{x:Operand}{lo hi:Option Operand}{s:ByteArray}{l h:Nat}(ho:o.op= .slice t x lo hi none)(hx:(bE sl x).nm= .p (.sc (.string s)))(ht:isStr P t=true)(hlo:match lo.map (fun y=>(bE sl y).nm)with|none=>l=0|some (.p (.sc (.int _ i)))=>i=(l:Int)|_=>False)(hhi:match hi.map (fun y=>(bE sl y).nm)with|none=>h=(bs s).length|some (.p (.sc (.int _ i)))=>i=(h:Int)|_=>False)(h1:l<=h)(h2:h<=(bs s).length):cP P sl o (.p (.str (((bs s).take h).drop l))):=bH fun w0 M0 F tb g a w hw hr=>by
 have h3:=hr x (by simp[ho,Op.operands]);rw[hx]at h3;have h3':=aZ h3;generalize hv:a.eval x=v at h3';cases h3';have b1:=nt (fun y e=>hr y (by simp[ho,Op.operands,e])) hlo;have b2:=nt (fun y e=>hr y (by simp[ho,Op.operands,e])) hhi;rw[mA]at b2 h2;have hb:=oL (P:=P) (Um:=false) (cap:=s.size) b1 b2 h1 h2 w;refine⟨uN (((bs s).take h).drop l),?_,.p (.sc _ rfl)⟩;unfold isStr at ht;split at ht
 ·rename_i hU;have e:uN (((bs s).take h).drop l)= .string (s.extract l h):=by
   rw[<-BI];congr 1;simp[bs,List.drop_take]
  rw[e];simp[execOp,ho,hv,Instr.sliceAt,Instr.slice,run_underlying hU,hb]
 ·cases ht
theorem LP{t:TypeId}{x:Operand}{lo hi:Option Operand}{xs:List PC}{l h:Nat}(ho:o.op= .slice t x lo hi none)(hx:(bE sl x).nm= .p (.sl xs))(ht:(aH P t).isSome=true)(hwd:∀y∈xs,aH P t=some y.width)(hlo:match lo.map (fun y=>(bE sl y).nm)with|none=>l=0|some (.p (.sc (.int _ i)))=>i=(l:Int)|_=>False)(hhi:match hi.map (fun y=>(bE sl y).nm)with|none=>h=xs.length|some (.p (.sc (.int _ i)))=>i=(h:Int)|_=>False)(h1:l<=h)(h2:h<=xs.length):cP P sl o (.p (.sl ((xs.take h).drop l))):=bH fun w0 M0 F tb g a w hw hr=>by
 have h3:=hr x (by simp[ho,Op.operands]);rw[hx]at h3;have h3':=aZ h3;generalize hv:a.eval x=v at h3';have b1:=nt (fun y e=>hr y (by simp[ho,Op.operands,e])) hlo;have b2:=nt (fun y e=>hr y (by simp[ho,Op.operands,e])) hhi;obtain⟨es,hes⟩:=Option.isSome_iff_exists.1 ht;have hU:∃el,P.underlying t=some (.slice el)/\aO P el=some es:=by
  unfold aH at hes;split at hes
  ·rename_i el hU;exact⟨el,hU,hes⟩
  ·cases hes
 obtain⟨el,hU,hsz⟩:=hU;cases h3' with
 |cX=>
  simp at h2 b2;obtain rfl:h=0:=by omega
  obtain rfl:l=0:=by omega
  have hb:=oL (P:=P) (Um:=true) (n:=0) (cap:=0) b1 (by simpa using b2) h1 (Nat.le_refl _) w;exact⟨.slice none 0 0,by simp[execOp,ho,hv,Instr.sliceAt,Instr.slice,run_underlying hU,hb,run_sizeOf hsz],.p (by simpa using gO.cX)⟩
 |rH ad=>
  simp at h2 b2;obtain rfl:h=0:=by omega
  obtain rfl:l=0:=by omega
  have hb:=oL (P:=P) (Um:=true) (n:=0) (cap:=0) b1 (by simpa using b2) h1 (Nat.le_refl _) w;exact⟨.slice (some ad) 0 0,by simp[execOp,ho,hv,Instr.sliceAt,Instr.slice,run_underlying hU,hb,run_sizeOf hsz],.p (by simpa using gO.rH ad)⟩
 |sl hl hc hm hs0 hu h1c hat pY=>
  rename_i b off n cap sz us;have hlx:=pY.length;have hn:n=xs.length:=by omega
  have hb:=oL (P:=P) (Um:=true) (n:=n) (cap:=cap) b1 (by rw[hn];exact b2) h1 (by omega) w;have VW:0<xs.length->es=sz:=fun hp=>by
   have hy:=hwd (xs[0]'hp) (List.getElem_mem hp)
   obtain⟨u,z8,Fw⟩:=pY.get (i:=0) (kq hp);have:u.cells.size=sz:=hu u (List.mem_of_getElem? z8);rw[qN Fw]at this;rw[hes]at hy;injection hy with hy;omega
  have hoff:(if cap=l then(some (⟨b,off,none⟩:Addr))else some ⟨b,off+l*es,none⟩)=some ⟨b,off+(if cap=l then 0 else l*es),none⟩:=by split<;>simp
  refine⟨.slice (some ⟨b,off+(if cap=l then 0 else l*es),none⟩) (h-l) (cap-l),?_,.p ?_⟩
  ·rw[<-hoff];simp[execOp,ho,hv,Instr.sliceAt,Instr.slice,run_underlying hU,hb,run_sizeOf hsz,Addr.add_lit]
  ·have pF:∀u∈(us.take h).drop l,u.cells.size=sz:=fun u LQ=>hu u (jH (List.mem_of_mem_drop LQ));refine .sl (sz:=sz) (us:=(us.take h).drop l) (by simp;omega) (by omega) (by omega) hs0 pF (fun v hv=>h1c v (by
    obtain⟨u,z8,Fw⟩:=List.mem_flatMap.1 hv;exact List.mem_flatMap.2 ⟨u,jH (List.mem_of_mem_drop z8),Fw⟩)) ?_ ((pY.take h).drop l)
   by_cases iB:cap=l
   ·have:(us.take h).drop l=[]:=by apply List.drop_eq_nil_of_le;simp;omega
    rw[this];intro j v e;simp[cellsOf]at e
   ·rw[if_neg iB];by_cases hp:0<xs.length
    ·rw[VW hp];refine hat.sub fun j v e=>?_;have hut:∀u∈us.take h,u.cells.size=sz:=fun u LQ=>hu u (jH LQ);exact sV us hu h _ _ (sW (us.take h) hut l (by simp;omega) j v e)
    ·have:(us.take h).drop l=[]:=by apply List.drop_eq_nil_of_le;simp;omega
     rw[this];intro j v e;simp[cellsOf]at e
theorem run_equalIn_bool{t:TypeId}(h:P.underlying t=some .bool)(d:Nat)(a b:Bool)(w:World):(Op.equalIn (d+1) t (.bool a) (.bool b)).run P w= .ok (a==b) w:=by
 simp[Op.equalIn,run_underlying h]
theorem run_eql_bool{t:TypeId}(h:P.underlying t=some .bool)(a b:Bool)(w:World):(binOp .eql t (.bool a) (.bool b)).run P w= .ok (.bool (a==b)) w:=by
 show(do pure (.bool (<-Op.equalIn (9999+1) t (.bool a) (.bool b))):Sem Value).run P w=_;simp[run_equalIn_bool h]
theorem run_neq_bool{t:TypeId}(h:P.underlying t=some .bool)(a b:Bool)(w:World):(binOp .neq t (.bool a) (.bool b)).run P w= .ok (.bool (a !=b)) w:=by
 show(do pure (.bool (!(<-Op.equalIn (9999+1) t (.bool a) (.bool b)))):Sem Value).run P w=_;simp[run_equalIn_bool h,bne]
theorem bF{g:G}{v u:Value}(h:aX g v (.p (.sc u))):v=u:=by cases aZ h;rfl
theorem QG{op:BinOp}{t t':TypeId}{x y:Operand}{u v:Value}{k:Value->Prop}(ho:o.op= .binOp op t x y t')(hx:(bE sl x).nm= .p (.sc u))(hy:(bE sl y).nm= .p (.sc v))(hb:iC P op t k u v):∃r,k r/\cP P sl o (.p (.sc r)):=by
 have key:∀r,r.oneCell'=true->(∀w,(do eqGuard op t x y u v;binOp op t u v).run P w= .ok r w)->cP P sl o (.p (.sc r)):=fun r h1 hr=>
  bH fun w0 M0 F tb g a w hw h=>by
   have e1:=h x (by simp[ho,Op.operands]);rw[hx]at e1;have e2:=h y (by simp[ho,Op.operands]);rw[hy]at e2;have e1:=bF e1;have e2:=bF e2;refine⟨r,?_,.p (.sc _ h1)⟩;have e:execOp a.eval o=(do let r<-(do eqGuard op t x y u v;binOp op t u v);pure (.value r)):=by unfold execOp;rw[ho];simp only[e1,e2]
   rw[e,Sem.run_bind,hr w];rfl
 cases u with
 |int c m=>
  cases v with
  |int d n=>
   cases op<;>(try unfold iC at hb)<;>(try dsimp only at hb)<;>(try simp only[and_false]at hb)
   case shl=>exact⟨_,hb.2,key _ rfl fun w=>by simp[go_sem,Op.shift,show¬n<0 by omega]⟩
   case shr=>exact⟨_,hb.2,key _ rfl fun w=>by simp[go_sem,Op.shift,show¬n<0 by omega]⟩
   case quo=>obtain⟨rfl,h0,hb⟩:=hb;exact⟨_,hb,key _ rfl fun w=>by simp[go_sem,h0]⟩
   case rem=>obtain⟨rfl,h0,hb⟩:=hb;exact⟨_,hb,key _ rfl fun w=>by simp[go_sem,h0]⟩
   all_goals (obtain⟨rfl,hb⟩:=hb;exact⟨_,hb,key _ rfl fun w=>by simp[go_sem]⟩)
  |_=>simp[iC]at hb
 |string s=>
  cases v with
  |string t=>
   cases op<;>(try unfold iC at hb)<;>(try dsimp only at hb)
   case add=>exact⟨_,hb.2,key _ rfl fun w=>by
    rw[mA,mA]at hb;have e:uN (bs s++bs t)= .string (s++t):=by rw[<-I_,BI]
    rw[e];simp[go_sem,binOp,hb.1]⟩
   case neq=>exact⟨_,hb,key _ rfl fun w=>by simp[go_sem,binOp,Op.stringOp,toList_bs,bne]⟩
   all_goals exact⟨_,hb,key _ rfl fun w=>by simp[go_sem,binOp,Op.stringOp,toList_bs]⟩
  |_=>simp[iC]at hb
 |bool b=>
  cases v with
  |bool d=>
   have hU:isBool P t=true:=by simp only[iC]at hb;exact hb.1
   have hU':P.underlying t=some .bool:=by
    unfold isBool at hU;split at hU
    ·assumption
    ·cases hU
   cases op<;>(try unfold iC at hb)<;>(try dsimp only at hb)<;>(try simp only[and_false]at hb)
   case eql=>exact⟨_,hb.2,key _ rfl fun w=>by simp[go_sem,run_eql_bool hU']⟩
   case neq=>exact⟨_,hb.2,key _ rfl fun w=>by simp[go_sem,run_neq_bool hU']⟩
  |_=>simp[iC]at hb
 |_=>simp[iC]at hb
end
end Go.Av
