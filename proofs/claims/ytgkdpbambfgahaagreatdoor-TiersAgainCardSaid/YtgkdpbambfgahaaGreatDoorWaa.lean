/- TiersAgain, part 1: an abstract interpreter over any program's form, with its proof of soundness; no condition. -/
import Derived.WalkSpells
import Derived.WalkKit
import Derived.Still
import Derived.Deep.LoopGhost
import Derived.WalkLawsBesides
import Derived.Laws.IdiomStrings
set_option linter.all false
set_option maxRecDepth 100000
set_option maxHeartbeats 64000000
namespace Go
def O{p:Prop}(h:p:=by omega):p:=h
def H{p:Prop}(h:p:=by simp):p:=h
def bp{p:Prop}(h:p:=by kernel_rfl):p:=h
def U{p q:Prop}(h:q)(e:q->p:=by intro h;simpa using h):p:=e h
end Go
namespace Go.Av
open Go.RowKit
def lT{α:Sort _}(a:α):∃x,a=x:=⟨a,rfl⟩
def mH{α:Sort _}(a:α):∃x,x=a:=⟨a,rfl⟩
abbrev aF:=List UInt8
abbrev eL:=List (Int×Int)
def yB:=@Array.getD_eq_getD_getElem?
def F0:=@Array.getElem?_append
def Fb:=@BitVec.ofInt_natCast
def Fc:=@BitVec.toNat_ofNat
def bG:=@Bool.and_eq_true
def F1:=@Bool.and_false
def uO:=@Bool.eq_iff_iff
def gy:=@Bool.false_and
def dZ:=@Bool.false_eq_true
def sj:=@Bool.not_eq_true'
def vb:=@Bool.or_eq_true
def ox:=@Bool.true_and
def aeF:=@Function.comp_def
def Fm:=@Int.emod_lt_of_pos
def Fl:=@Int.emod_nonneg
def mP:=@Int.fdiv_eq_ediv_of_nonneg
def yC:=@Int.le_of_lt
def yD:=@Int.pow_pos
def FQ:=@Int.tdiv_eq_ediv_of_nonneg
def sk:=@Int.tmod_eq_emod_of_nonneg
def qS:=@Int.toNat_natCast
def sL:=@Int.toNat_of_nonneg
def BW:=@List.Perm.append_left
def qT:=@List.Sublist.refl
def yE:=@List.all_cons
def Fg:=@List.all_eq_false
def gX:=@List.all_eq_true
def Fh:=@List.any_cons
def uM:=@List.any_eq_false
def Kt:=@List.any_eq_true
def cW:=@List.append_assoc
def gL:=@List.append_nil
def xU:=@List.concat_eq_append
def kP:=@List.cons_append
def BQ:=@List.dropLast_concat
def qU:=@List.drop_append
def oy:=@List.drop_drop
def eK:=@List.drop_eq_getElem_cons
def vf:=@List.drop_eq_nil_of_le
def kr:=@List.drop_left'
def sM:=@List.drop_length
def gM:=@List.drop_of_length_le
def gJ:=@List.drop_succ_cons
def xT:=@List.drop_take
def jx:=@List.drop_zero
def uK:=@List.eq_nil_or_concat
def qV:=@List.ext_getElem?
def BR:=@List.flatMap_append
def cU:=@List.flatMap_cons
def vg:=@List.flatten_append
def jz:=@List.flatten_cons
def qW:=@List.flatten_nil
def qX:=@List.foldl_append
def F2:=@List.foldl_cons
def Kq:=@List.getD_cons_zero
def Ky:=@List.getElem?_cons_succ
def Kx:=@List.getElem?_cons_zero
def F3:=@List.getElem?_drop
def K2:=@List.getElem?_eq_getElem
def sN:=@List.getElem?_eq_none
def KY:=@List.getElem?_eq_some_iff
def sO:=@List.getElem?_map
def u_:=@List.getElem?_take
def uR:=@List.getElem?_toArray
def yF:=@List.getElem_cons_zero
def bB:=@List.getElem_mem
def xW:=@List.getElem_of_mem
def KW:=@List.getLast?_concat
def FL:=@List.getLast?_nil
def f_:=@List.length_append
def cF:=@List.length_cons
def yz:=@List.length_drop
def TK:=@List.length_eq_zero_iff
def je:=@List.length_flatten
def pe:=@List.length_map
def fQ:=@List.length_nil
def Fj:=@List.length_pos_iff
def vh:=@List.length_set
def lV:=@List.length_take
def jB:=@List.map_append
def yG:=@List.map_congr_left
def dB:=@List.map_cons
def jG:=@List.map_drop
def F4:=@List.map_flatten
def jF:=@List.map_map
def qN:=@List.map_nil
def fG:=@List.map_take
def FH:=@List.map_toArray
def Bu:=@List.mem_append_left
def Kz:=@List.mem_append_right
def fF:=@List.mem_cons
def yH:=@List.mem_cons_of_mem
def K3:=@List.mem_cons_self
def Bb:=@List.mem_flatMap
def mQ:=@List.mem_flatten
def yI:=@List.mem_iff_getElem
def bE:=@List.mem_map
def Km:=@List.mem_of_getElem?
def fq:=@List.mem_of_mem_drop
def K4:=@List.mem_of_mem_take
def F5:=@List.mem_or_eq_of_mem_set
def si:=@List.mem_range
def xZ:=@List.mem_replicate
def gK:=@List.mem_singleton
def o3:=@List.nil_append
def uI:=@List.pairwise_append
def uJ:=@List.pairwise_cons
def yJ:=@List.pairwise_iff_getElem
def K5:=@List.perm_append_comm
def uX:=@List.replicate_succ
def TL:=@List.replicate_succ'
def BX:=@List.set_eq_take_append_cons_drop
def Br:=@List.size_toArray
def uN:=@List.takeWhile_cons
def BZ:=@List.take_append
def eO:=@List.take_append_drop
def vi:=@List.take_append_of_le_length
def gN:=@List.take_left'
def eH:=@List.take_length
def B2:=@List.take_of_length_le
def jH:=@List.take_succ_cons
def F6:=@List.take_succ_eq_append_getElem
def qY:=@List.take_take
def yK:=@List.take_zero
def ow:=@Nat.add_assoc
def oz:=@Nat.add_mul
def qQ:=@Nat.add_zero
def oq:=@Nat.eq_zero_or_pos
def Fq:=@Nat.le_add_right
def qI:=@Nat.le_of_eq
def aX:=@Nat.le_refl
def cT:=@Nat.le_trans
def iD:=@Nat.lt_or_ge
def eS:=@Nat.min_eq_left
def BF:=@Nat.min_eq_right
def uL:=@Nat.mod_eq_of_lt
def aot:=@Nat.mod_two_eq_zero_or_one
def yu:=@Nat.mul_add
def F7:=@Nat.mul_le_mul_left
def yc:=@Nat.mul_le_mul_right
def o4:=@Nat.mul_one
def qZ:=@Nat.pos_of_ne_zero
def aou:=@Nat.xor_assoc
def sP:=@Nat.xor_lt_two_pow
def pq:=@Nat.zero_add
def q_:=@Nat.zero_le
def sQ:=@Nat.zero_mul
def rf:=@Option.getD_some
def qt:=@Option.isSome_iff_exists
def KB:=@Option.some.inj
def uH:=@Option.some.injEq
def yt:=@UInt8.toNat_inj
def xY:=@UInt8.toNat_ofNat'
def kC:=@beq_eq_false_iff_ne
def ri:=@beq_iff_eq
def dg:=@congrArg
def kF:=@decide_eq_false
def Kr:=@decide_eq_false_iff_not
def nw:=@decide_eq_true
def eZ:=@decide_eq_true_eq
def B3:=@decide_false
def fV:=@eq_iff_iff
def dc:=@if_false
def ah:=@if_neg
def ai:=@if_pos
def cr:=@if_true
def nC:=@iff_false
def nD:=@iff_true
theorem kG{α:Type _}{l:List α}{i:Nat}(h:i<l.length):l.take (i+1)=l.take i++[l[i]]:=List.take_succ_eq_append_getElem h
def mo{α:Type _}{as bs:List α}:(as++bs).length=as.length+bs.length:=List.length_append
theorem gv{α:Type _}{i:Nat}{l:List α}(h:l.length<=i):l.take i=l:=List.take_of_length_le h
def n_{α:Type _}{l:List α}{i:Nat}(h:i<l.length):l[i]?=some l[i]:=List.getElem?_eq_getElem h
def o5{α:Type _}{l:List α}(h:l.length=0):l=[]:=List.eq_nil_of_length_eq_zero h
def oa{α:Type _}{a:α}{i:Nat}{l:List α}(h:a∈l.take i):a∈l:=List.mem_of_mem_take h
def u6{α:Type _}{l:List α}{i:Nat}{a:α}:l.getD i a=l[i]?.getD a:=List.getD_eq_getElem?_getD
def lD{α:Type _}{a:α}{s t:List α}:a∈s++t↔a∈s\/a∈t:=List.mem_append
abbrev Mem:=Nat->Nat->Option Value
def Mem.le(M N:Mem):Prop:=∀b o v,M b o=some v->N b o=some v
theorem Mem.le_refl(M:Mem):M.le M:=λ_ _ _ h=>h
def Mem.le.trans{A B C:Mem}(h:A.le B)(k:B.le C):A.le C:=λ_ _ _ e=>k _ _ _ (h _ _ _ e)
inductive PC where
 |sc (v:Value)
 |nil
 |agg (sE:Bool) (xs:List PC)
 |sl (xs:List PC)
 |ref (x:PC)
 |fn (f:Fn) (caps:List PC)
 deriving Inhabited
def At(M:Mem)(b off:Nat)(vs:List Value):Prop:=∀j v,vs[j]?=some v->M b (off+j)=some v
def cellsOf(us:List Value):List Value:=us.flatMap λu=>u.cells.toList
mutual
inductive jc(M:Mem):Value->PC->Prop
 |sc (v:Value) (h:v.oneCell'=true):jc M v (.sc v)
 |nil:jc M (.slice none 0 0) .nil
 |dX:jc M (.slice none 0 0) (.sl [])
 |ug (a:Addr):jc M (.slice (some a) 0 0) (.sl [])
 |agg {vs:List Value} {xs:List PC} (h:dh M vs xs) (h1:∀v∈vs,v.oneCell'=true):jc M (.agg vs.toArray) (.agg false xs)
 |sE {vs:List Value} {xs:List PC} (h:dh M vs xs):jc M (.tuple vs.toArray) (.agg true xs)
 |sl {b off n cap sz:Nat} {us:List Value} {xs:List PC} (hn:us.length=n) (hc:n<=cap) (hm:cap<=maxLen) (hsz:0<sz) (hu:∀u∈us,u.cells.size=sz) (h1:∀v∈cellsOf us,v.oneCell'=true) (eM:At M b off (cellsOf us)) (h:dh M us xs):jc M (.slice (some ⟨b,off,none⟩) n cap) (.sl xs)
 |ref {b off:Nat} {u:Value} {x:PC} (eM:At M b off u.cells.toList) (h:jc M u x):jc M (.pointer (some ⟨b,off,none⟩)) (.ref x)
 |fn {f:Fn} {vs:List Value} {xs:List PC} (h:dh M vs xs):jc M (.func f #[] vs.toArray) (.fn f xs)
inductive dh(M:Mem):List Value->List PC->Prop
 |nil:dh M [] []
 |cons {v:Value} {x:PC} {vs:List Value} {xs:List PC} (h:jc M v x) (hs:dh M vs xs):dh M (v::vs) (x::xs)
end
def At.mono{M N:Mem}(h:M.le N){b off:Nat}{vs:List Value}(k:At M b off vs):At N b off vs:=λj v e=>h _ _ _ (k j v e)
mutual
def jc.mono{M N:Mem}(h:M.le N){v:Value}{x:PC}(k:jc M v x):jc N v x:=by
 cases k with
 |sc v h1=>exact .sc v h1
 |nil=>exact .nil
 |dX=>exact .dX
 |ug a=>exact .ug a
 |agg hs h1=>exact .agg (hs.mono h) h1
 |sE hs=>exact .sE (hs.mono h)
 |sl hn hc hm hsz hu h1 eM hs=>exact .sl hn hc hm hsz hu h1 (eM.mono h) (hs.mono h)
 |ref eM hs=>exact .ref (eM.mono h) (hs.mono h)
 |fn hs=>exact .fn (hs.mono h)
def dh.mono{M N:Mem}(h:M.le N){vs:List Value}{xs:List PC}(k:dh M vs xs):dh N vs xs:=by
 cases k with
 |nil=>exact .nil
 |cons h1 hs=>exact .cons (h1.mono h) (hs.mono h)
end
theorem dh.length{M:Mem}:∀{vs:List Value} {xs:List PC},dh M vs xs->vs.length=xs.length
 |[],[],_=>rfl
 |_::_,_::_,.cons _ hs=>by simp[hs.length]
theorem dh.get{M:Mem}:∀{vs:List Value} {xs:List PC},dh M vs xs->∀{i:Nat} {x:PC},xs[i]?=some x->∃v,vs[i]?=some v/\jc M v x
 |_,_,.nil,_,_,h=>by grind
 |_,_,.cons (v:=v) h1 hs,0,x,h=>by grind
 |_,_,.cons h1 hs,i+1,x,h=>by simp at h;simpa using hs.get h
theorem dh.append{M:Mem}:∀{vs ws:List Value} {xs ys:List PC},dh M vs xs->dh M ws ys->dh M (vs++ws) (xs++ys)
 |_,_,_,_,.nil,k=>k
 |_,_,_,_,.cons h1 hs,k=> .cons h1 (hs.append k)
theorem dh.take{M:Mem}:∀{vs:List Value} {xs:List PC} (n:Nat),dh M vs xs->dh M (vs.take n) (xs.take n)
 |_,_,0,_=>by simpa using dh.nil
 |_,_,n+1,.nil=>by simpa using dh.nil
 |_,_,n+1,.cons h1 hs=>by simpa using dh.cons h1 (hs.take n)
theorem dh.drop{M:Mem}:∀{vs:List Value} {xs:List PC} (n:Nat),dh M vs xs->dh M (vs.drop n) (xs.drop n)
 |_,_,0,h=>by grind
 |_,_,n+1,.nil=>by simpa using dh.nil
 |_,_,n+1,.cons h1 hs=>by simpa using hs.drop n
inductive AV where
 |p (x:PC)
 |obj (id off:Nat)
 |own (id:Nat) (xs:List PC)
 |full (xs:List PC)
 |nn (xs:List PC)
 |view (id o n s:Nat) (c:Option Nat)
 |agg (sE:Bool) (xs:List AV)
 |mB (f:Fn) (xs:List AV)
 |pK (f:Fn) (xs:List AV)
 |o_ (t:TypeId) (x:AV)
 |any
 deriving Inhabited
structure G where
 M:Mem
 ob:Nat->Option (Nat×Nat)
 rv:Nat->Option Value
inductive BJ(a:Option Addr)(b c o s:Nat):Prop
 |real (off:Nat) (h0:0<c) (ha:a=some ⟨b,off,none⟩) (ho:o<c\/o=0->off=o*s)
 |void (h0:c=0) (ha:a=none\/∃a',a=some a')
mutual
inductive bJ(g:G):Value->AV->Prop
 |p {v:Value} {x:PC} (h:jc g.M v x):bJ g v (.p x)
 |obj {id off b c:Nat} (h:g.ob id=some (b,c)):bJ g (.pointer (some ⟨b,off,none⟩)) (.obj id off)
 |own {id:Nat} {v:Value} {xs:List PC} (h:g.rv id=some v) (hr:jc g.M v (.sl xs)):bJ g v (.own id xs)
 |full {a:Option Addr} {n:Nat} {xs:List PC} (hr:jc g.M (.slice a n n) (.sl xs)):bJ g (.slice a n n) (.full xs)
 |nn {a:Addr} {n c:Nat} {xs:List PC} (hr:jc g.M (.slice (some a) n c) (.sl xs)):bJ g (.slice (some a) n c) (.nn xs)
 |view {id b c o n s:Nat} {a:Option Addr} {m:Option Nat} (h:g.ob id=some (b,c)) (hn:o+n<=c) (hc:c<=maxLen) (ha:BJ a b c o s) (hm:∀k,m=some k->c=k):bJ g (.slice a n (c-o)) (.view id o n s m)
 |agg {vs:List Value} {xs:List AV} (h:aV g vs xs) (h1:∀v∈vs,v.oneCell'=true):bJ g (.agg vs.toArray) (.agg false xs)
 |sE {vs:List Value} {xs:List AV} (h:aV g vs xs):bJ g (.tuple vs.toArray) (.agg true xs)
 |mB {f:Fn} {vs:List Value} {xs:List AV} (h:aV g vs xs):bJ g (.func f #[] vs.toArray) (.mB f xs)
 |pK {f:Fn} {vs:List Value} {xs:List AV} (h:aV g vs xs):bJ g (.func f vs.toArray #[]) (.pK f xs)
 |o_ {t:TypeId} {v:Value} {x:AV} (h:bJ g v x):bJ g (.iface t v) (.o_ t x)
 |any (v:Value):bJ g v .any
inductive aV(g:G):List Value->List AV->Prop
 |nil:aV g [] []
 |cons {v:Value} {x:AV} {vs:List Value} {xs:List AV} (h:bJ g v x) (hs:aV g vs xs):aV g (v::vs) (x::xs)
end
structure G.le(g g':G):Prop where
 M:g.M.le g'.M
 ob:∀i p,g.ob i=some p->g'.ob i=some p
 rv:∀i v,g.rv i=some v->g'.rv i=some v
theorem G.le_refl(g:G):g.le g:=⟨Mem.le_refl _,λ_ _ h=>h,λ_ _ h=>h⟩
def G.le.trans{a b c:G}(h:a.le b)(k:b.le c):a.le c:=⟨h.M.trans k.M,λ_ _ e=>k.ob _ _ (h.ob _ _ e),λ_ _ e=>k.rv _ _ (h.rv _ _ e)⟩
mutual
def bJ.mono{g g':G}(h:g.le g'){v:Value}{x:AV}(k:bJ g v x):bJ g' v x:=by
 cases k with
 |p h1=>exact .p (h1.mono h.M)
 |obj e=>exact .obj (h.ob _ _ e)
 |own e hr=>exact .own (h.rv _ _ e) (hr.mono h.M)
 |full hr=>exact .full (hr.mono h.M)
 |nn hr=>exact .nn (hr.mono h.M)
 |view e h1 h2 h3 h4=>exact .view (h.ob _ _ e) h1 h2 h3 h4
 |agg hs h1=>exact .agg (hs.mono h) h1
 |sE hs=>exact .sE (hs.mono h)
 |mB hs=>exact .mB (hs.mono h)
 |pK hs=>exact .pK (hs.mono h)
 |o_ hs=>exact .o_ (hs.mono h)
 |any v=>exact .any v
def aV.mono{g g':G}(h:g.le g'){vs:List Value}{xs:List AV}(k:aV g vs xs):aV g' vs xs:=by
 cases k with
 |nil=>exact .nil
 |cons h1 hs=>exact .cons (h1.mono h) (hs.mono h)
end
theorem aV.length{g:G}:∀{vs:List Value} {xs:List AV},aV g vs xs->vs.length=xs.length
 |[],[],_=>rfl
 |_::_,_::_,.cons _ hs=>by simp[hs.length]
theorem aV.get{g:G}:∀{vs:List Value} {xs:List AV},aV g vs xs->∀{i:Nat} {x:AV},xs[i]?=some x->∃v,vs[i]?=some v/\bJ g v x
 |_,_,.nil,_,_,h=>by grind
 |_,_,.cons (v:=v) h1 hs,0,x,h=>by grind
 |_,_,.cons h1 hs,i+1,x,h=>by simp at h;simpa using hs.get h
structure Ob where
 el:TypeId
 sz:Nat
 xs:List AV
structure Tb where
 bx:List (Nat×Ob)
 rw:List (Nat×TypeId×Nat)
 nx:Nat
structure AS where
 sl:Nat->AV
 tb:Tb
def lk{α:Type}(t:Nat):List (Nat×α)->Option α
 |[]=>none
 |(k,v)::l=>if t=k then some v else lk t l
def del{α:Type}(t:Nat):List (Nat×α)->List (Nat×α)
 |[]=>[]
 |(k,v)::l=>if t=k then del t l else(k,v)::del t l
theorem cQ{α:Type}(t u:Nat):∀(l:List (Nat×α)),lk u (del t l)=if u=t then none else lk u l
 |[]=>by simp[lk,del]
 |(k,v)::l=>by
  simp only[del];split
  .rename_i e;subst e;rw[cQ t u l];grind [lk]
  .rename_i e;simp only[lk];rw[cQ t u l]
   grind
def AJ(f:Nat->AV)(d:Nat)(x:AV):Nat->AV:=λt=>if t=d then x else f t
theorem TN(f:Nat->AV){d e:Nat}(x y:AV)(h:d≠e):AJ (AJ f d x) e y=AJ (AJ f e y) d x:=by
 grind [AJ]
def h_(sl:Nat->AV)(dst:Option Tmp)(x:AV):Nat->AV:=match dst with
 |some d=>AJ sl d x
 |none=>sl
def AS.put(st:AS)(dst:Option Tmp)(x:AV):AS:=⟨h_ st.sl dst x,st.tb⟩
def c1:Value->PC
 | .slice none 0 0=> .nil
 |v=> .sc v
def evC:Value->AV
 | .agg cs=>if cs.toList.all (·.oneCell')then .p (.agg false (cs.toList.map c1))else .any
 | .tuple _=> .any
 |v=> .p (c1 v)
def bT(sl:Nat->AV):Operand->AV
 | .tmp t=>sl t
 | .const v=>evC v
 | .func f=> .p (.fn (.func f) [])
 | .global _=> .any
def TP(M:Mem)(v:Value)(h:v.oneCell'=true):jc M v (c1 v):=by
 unfold c1;split
 .exact .nil
 .exact .sc _ h
theorem wS(M:Mem):∀(vs:List Value),(∀v∈vs,v.oneCell'=true)->dh M vs (vs.map c1)
 |[],_=> .nil
 |v::vs,h=> .cons (TP M v (h v H)) (wS M vs λu hu=>h u (by grind))
def TQ(g:G)(v:Value):bJ g v (evC v):=by
 unfold evC;split
 .rename_i cs;split
  .rename_i h;have h':∀v∈cs.toList,v.oneCell'=true:=List.all_eq_true.1 h;have:=jc.agg (wS g.M cs.toList h') h';exact .p O
  .exact .any _
 .exact .any _
 .rename_i h1 h2;exact .p (TP _ _ (by grind [Value.oneCell']))
def nK:List Nat:=[0x00000000,0x1DB71064,0x3B6E20C8,0x26D930AC,0x76DC4190,0x6B6B51F4,0x4DB26158,0x5005713C,0xEDB88320,0xF00F9344,0xD6D6A3E8,0xCB61B38C,0x9B64C2B0,0x86D3D2D4,0xA00AE278,0xBDBDF21C]
def GOk(M:Mem):Prop:=∀j n,nK[j]?=some n->M 0 j=some (.int .u32 (n:Nat))
structure iO(w:World)(M:Mem):Prop where
 app:∀b o v,M b o=some v->w.cell? ⟨b,o,none⟩=some v
 g:GOk M
instance{w:World}{M:Mem}:CoeFun (iO w M) (λ_=>∀b o v,M b o=some v->w.cell? ⟨b,o,none⟩=some v):=⟨iO.app⟩
def GOk.mono{M N:Mem}(h:GOk M)(hM:M.le N):GOk N:=λj n e=>hM _ _ _ (h j n e)
def iO.lt{w:World}{M:Mem}(h:iO w M){b o:Nat}{v:Value}(e:M b o=some v):b<w.heap.size:=World.block_lt_of_cell? w ⟨b,o,none⟩ (h b o v e)
structure vj(F:Nat->Prop)(w w':World):Prop where
 os:w'.os=w.os
 tape:w'.tape=w.tape
 output:w'.output=w.output
 size:w.heap.size<=w'.heap.size
 block:∀k,k<w.heap.size->¬F k->w'.heap[k]?=w.heap[k]?
theorem vj.refl(F:Nat->Prop)(w:World):vj F w w:=⟨rfl,rfl,rfl,Nat.le_refl _,λ_ _ _=>rfl⟩
def vj.TR{F:Nat->Prop}{w w':World}(h:Below w.heap.size w w'):vj F w w':=⟨h.os,h.tape,h.output,h.size,λk hk _=>h.block k hk⟩
def vj.trans{F F':Nat->Prop}{a b c:World}(h:vj F a b)(k:vj F' b c)(hF:∀n,n<a.heap.size->F' n->F n):vj F a c:=⟨k.os.trans h.os,k.tape.trans h.tape,k.output.trans h.output,Nat.le_trans h.size k.size,λi hi hn=>
 (k.block i (Nat.lt_of_lt_of_le hi h.size) λhf=>hn (hF i hi hf)).trans (h.block i hi hn)⟩
def fO:Value->Option Nat
 | .slice (some a) n c=>if n<c then some a.block else none
 |_=>none
def qA{a b:Prop}(x:a)(y:b):a/\b:=⟨x,y⟩
def frM:Nat:=1000000
def Xx(el t n:Nat)(fz:Nat×Nat):Prop:=(t=el/\fz=(0,0))\/(el=t+frM/\n<=fz.1)
def Xx.low{el t n:Nat}{fz:Nat×Nat}(h:Xx el t n fz)(hl:el<frM):t=el/\fz=(0,0):=by
 rcases h with h|⟨h,_⟩
 all_goals omega
def Xx.fz{el t n:Nat}{fz:Nat×Nat}(h:Xx el t n fz):fz=(0,0)\/n<=fz.1:=h.imp (·.2) (·.2)
def TS(B:Nat)(F:Nat->Prop)(g:G)(w:World)(id:Nat)(o:Ob):Prop:=∃b c,g.ob id=some (b,c)/\(0<c->∃cur,(B<=b\/F b)/\(∀off,g.M b off=none)/\(∃t fz,w.heap[b]?=some (.cells cur t fz)/\Xx o.el t cur.size fz)/\c*o.sz<=cur.size/\c<=maxLen/\o.xs.length<=cur.size/\aV g (cur.toList.take o.xs.length) o.xs/\∀v∈cur.toList,v.oneCell'=true)/\(c=0->o.xs=[])
def TS.real{B:Nat}{F:Nat->Prop}{g:G}{w:World}{id:Nat}{o:Ob}(h:TS B F g w id o){b c:Nat}(he:g.ob id=some (b,c))(hc:0<c):∃cur,(B<=b\/F b)/\(∀off,g.M b off=none)/\(∃t fz,w.heap[b]?=some (.cells cur t fz)/\Xx o.el t cur.size fz)/\c*o.sz<=cur.size/\c<=maxLen/\o.xs.length<=cur.size/\aV g (cur.toList.take o.xs.length) o.xs/\∀v∈cur.toList,v.oneCell'=true:=by
 obtain⟨b',c',h1,h2,_⟩:=h
 grind
def TS.pos{B:Nat}{F:Nat->Prop}{g:G}{w:World}{id:Nat}{o:Ob}(h:TS B F g w id o){b c:Nat}(he:g.ob id=some (b,c))(hx:o.xs≠[]):0<c:=by
 obtain⟨b',c',h1,_,h2⟩:=h
 grind
def aov(B:Nat)(F:Nat->Prop)(g:G)(w:World)(id:Nat)(el:TypeId)(sz:Nat):Prop:=∃v,g.rv id=some v/\((∃a n,v= .slice a n n)\/∃b n cap cur,v= .slice (some ⟨b,0,none⟩) n cap/\(B<=b\/F b)/\(∃t fz,w.heap[b]?=some (.cells cur t fz)/\Xx el t cur.size fz)/\cap*sz<=cur.size/\n<cap/\cap<=maxLen/\0<sz/\At g.M b 0 (cur.toList.take (n*sz))/\∀o v,g.M b o=some v->o<n*sz)
structure bf(w0:World)(M0:Mem)(F:Nat->Prop)(tb:Tb)(g:G)(w:World):Prop where
 holds:iO w g.M
 keep:vj F w0 w
 old:∀b,b<w0.heap.size->¬F b->g.M b=M0 b
 HC:M0.le g.M
 boxes:∀id o,lk id tb.bx=some o->TS w0.heap.size F g w id o
 rows:∀id el sz,lk id tb.rw=some (el,sz)->aov w0.heap.size F g w id el sz
 iC:∀i j o p b c b' c',lk i tb.bx=some o->lk j tb.bx=some p->i≠j->g.ob i=some (b,c)->g.ob j=some (b',c')->0<c->0<c'->b≠b'
 jA:∀i j r s u v b,lk i tb.rw=some r->lk j tb.rw=some s->i≠j->g.rv i=some u->g.rv j=some v->fO u=some b->fO v≠some b
 gS:∀i j o r b c v,lk i tb.bx=some o->lk j tb.rw=some r->g.ob i=some (b,c)->g.rv j=some v->0<c->fO v≠some b
 fresh:∀i,tb.nx<=i->g.ob i=none/\g.rv i=none
def Po(sl:Nat->AV)(g:G)(a:Act):Prop:=∀t,bJ g (a.tmps.getD t undef) (sl t)
def G.with(g:G)(M:Mem):G:={g with M}
def G.qJ{g:G}{N:Mem}(h:g.M.le N):g.le (g.with N):=⟨h,λ_ _ h=>h,λ_ _ h=>h⟩
def kN{sl:Nat->AV}{g:G}{a:Act}(x:Operand)(h:∀t,x= .tmp t->bJ g (a.tmps.getD t undef) (sl t)):bJ g (a.eval x) (bT sl x):=by
 cases x with
 |tmp t=>exact h t rfl
 |const v=>exact TQ g v
 |func f=>exact .p (.fn (vs:=[]) .nil)
 |global n=>exact .any _
def AK{w:World}{b:Nat}{o:Obj}(h:w.heap[b]?=some o):b<w.heap.size:=(Array.getElem?_eq_some_iff.1 h).1
def bf.drew{w0:World}{M0:Mem}{F:Nat->Prop}{tb:Tb}{g:G}{w:World}(h:bf w0 M0 F tb g w):bf w0 M0 F tb g w.drew:=⟨⟨h.holds.app,h.holds.g⟩,⟨h.keep.os,h.keep.tape,h.keep.output,h.keep.size,h.keep.block⟩,h.old,h.HC,h.boxes,h.rows,h.iC,h.jA,h.gS,h.fresh⟩
def bf.later{w0:World}{M0:Mem}{F:Nat->Prop}{tb:Tb}{g:G}{w w':World}{N:Mem}(h:bf w0 M0 F tb g w)(hM:g.M.le N)(hH:iO w' N)(hO:∀b,b<w.heap.size->N b=g.M b)(hB:Below w.heap.size w w'):bf w0 M0 F tb (g.with N) w':=by
 refine⟨hH,h.keep.trans (F':=λ_=>False) (vj.TR hB) (λ_ _ hf=>hf.elim),λb hb hf=>?_,h.HC.trans hM,λid o e=>?_,λid el sz e=>?_,h.iC,h.jA,h.gS,h.fresh⟩
 .exact(hO b (Nat.lt_of_lt_of_le hb h.keep.size)).trans (h.old b hb hf)
 .obtain⟨b,c,h1,hr,h0⟩:=h.boxes id o e;refine⟨b,c,h1,λhc=>?_,h0⟩;obtain⟨cur,h2,h3,⟨tt,fz,h4,fo⟩,h5,h6,h7,h8,h9⟩:=hr hc;have hb:=AK h4;exact⟨cur,h2,λo=>by show N b o=none;simp_all,⟨tt,fz,(hB.block _ hb).trans h4,fo⟩,h5,h6,h7,h8.mono (G.qJ hM),h9⟩
 .obtain⟨v,h1,h2⟩:=h.rows id el sz e;refine⟨v,h1,h2.imp (λh=>h) ?_⟩;rintro⟨b,n,cap,cur,h3,h4,⟨tt,fz,h5,fo⟩,h6,h7,h8,h9,h10,h11⟩;have hb:=AK h5;exact⟨b,n,cap,cur,h3,h4,⟨tt,fz,(hB.block _ hb).trans h5,fo⟩,h6,h7,h8,h9,h10.mono hM,λo v e=>by have e':N b o=some v:=e;simp_all⟩
end Go.Av
namespace Go.Av
open Go.RowKit
def AV.pc:AV->Option PC
 | .p x=>some x
 | .own _ xs=>some (.sl xs)
 | .full xs=>some (.sl xs)
 | .nn xs=>some (.sl xs)
 | .agg t xs=>match fM xs with
  |some ys=>some (.agg t ys)
  |none=>none
 |_=>none
where fM:List AV->Option (List PC)
 |[]=>some []
 |x::l=>match x.pc,fM l with
  |some y,some ys=>some (y::ys)
  |_,_=>none
def AV.nm(x:AV):AV:=match x.pc with
 |some y=> .p y
 |none=>x
mutual
theorem ry{g:G}{v:Value}{x:AV}(h:bJ g v x)(y:PC)(e:x.pc=some y):jc g.M v y:=by
 cases h with
 |p h1=>grind [AV.pc]
 |obj _=>simp[AV.pc]at e
 |own _ hr=>grind [AV.pc]
 |full hr=>grind [AV.pc]
 |nn hr=>grind [AV.pc]
 |view _ _ _ _ _=>simp[AV.pc]at e
 |mB _=>simp[AV.pc]at e
 |pK _=>simp[AV.pc]at e
 |o_ _=>simp[AV.pc]at e
 |agg hs h1=>
  simp only[AV.pc]at e;split at e
  .rename_i ys he;injection e with e;subst e;exact .agg (Df hs ys he) h1
  grind
 |sE hs=>
  simp only[AV.pc]at e;split at e
  .rename_i ys he;injection e with e;subst e;exact .sE (Df hs ys he)
  grind
 |any _=>simp[AV.pc]at e
theorem Df{g:G}{vs:List Value}{xs:List AV}(h:aV g vs xs)(ys:List PC)(e:AV.pc.fM xs=some ys):dh g.M vs ys:=by
 cases h with
 |nil=>simp only[AV.pc.fM,uH]at e;subst e;exact .nil
 |cons h1 hs=>
  simp only[AV.pc.fM]at e;split at e
  .rename_i y ys' e1 e2;injection e with e;subst e;exact .cons (ry h1 y e1) (Df hs ys' e2)
  grind
end
theorem cu{g:G}{v:Value}{x:AV}(h:bJ g v x):bJ g v x.nm:=by
 unfold AV.nm;split
 .rename_i y e;exact .p (ry h y e)
 omega
section
variable(P:Program)(sl:Nat->AV)(o:Oper)
def dy(x:AV):Prop:=∀(w0:World) (M0:Mem) (F:Nat->Prop) (tb:Tb) (g:G) (a:Act) (w:World),bf w0 M0 F tb g w->(∀t,Operand.tmp t∈o.op.operands->bJ g (a.tmps.getD t undef) (sl t))->∀(K:Act->World->Prop) (Q:Exit->Act->World->Prop),(∀v w' N,g.M.le N->bf w0 M0 F tb (g.with N) w'->bJ (g.with N) v x->K (a.put o.dst v) w')->o.wp P a w K Q
end
section
variable{P:Program}{sl:Nat->AV}{o:Oper}
def eU{x:AV}(h:∀(w0:World) (M0:Mem) (F:Nat->Prop) (tb:Tb) (g:G) (a:Act) (w:World),bf w0 M0 F tb g w->(∀y,y∈o.op.operands->bJ g (a.eval y) (bT sl y))->∃v,(execOp a.eval o).run P w= .ok (.value v) w/\bJ g v x):dy P sl o x:=by
 intro w0 M0 F tb g a w hw ho K Q hK;obtain⟨v,hr,hv⟩:=h w0 M0 F tb g a w hw (λy hy=>kN y λt e=>ho t (e▸hy));unfold Oper.wp;rw[hr];exact hK v w g.M (Mem.le_refl _) hw hv
def bY{x:AV}(h:∀(w0:World) (M0:Mem) (F:Nat->Prop) (tb:Tb) (g:G) (a:Act) (w:World),bf w0 M0 F tb g w->(∀y,y∈o.op.operands->bJ g (a.eval y) (bT sl y).nm)->∃v,(execOp a.eval o).run P w= .ok (.value v) w/\bJ g v x):dy P sl o x:=by
 intro w0 M0 F tb g a w hw ho K Q hK;obtain⟨v,hr,hv⟩:=h w0 M0 F tb g a w hw (λy hy=>cu (kN y λt e=>ho t (e▸hy)));unfold Oper.wp;rw[hr];exact hK v w g.M (Mem.le_refl _) hw hv
def FU{x:AV}(h:∀(w0:World) (M0:Mem) (F:Nat->Prop) (tb:Tb) (g:G) (a:Act) (w:World),bf w0 M0 F tb g w->(∀y,y∈o.op.operands->bJ g (a.eval y) (bT sl y).nm)->∃v w' N,(execOp a.eval o).run P w= .ok (.value v) w'/\g.M.le N/\iO w' N/\(∀b,b<w.heap.size->N b=g.M b)/\Below w.heap.size w w'/\bJ (g.with N) v x):dy P sl o x:=by
 intro w0 M0 F tb g a w hw ho K Q hK;obtain⟨v,w',N,hr,h1,h2,h3,h4,hv⟩:=h w0 M0 F tb g a w hw (λy hy=>cu (kN y λt e=>ho t (e▸hy)));unfold Oper.wp;rw[hr];exact hK v w' N h1 (hw.later h1 h2 h3 h4) hv
end
def eE(P:Program)(f:FuncId):Prop:=∃fn,P.funcs[f]?=some fn/\(fn.name=="runtime.NumGoroutine")=false/\fn.body.isNone=false
def alH(M:Mem)(w:World)(r:PC)(e:Ending)(w':World):Prop:=∃v N,e= .returned v/\jc N v r/\iO w' N/\M.le N/\(∀b,b<w.heap.size->N b=M b)/\Below w.heap.size w w'
def nc(P:Program)(f:FuncId)(xs:List PC)(r:PC):Prop:=eE P f/\∀(M:Mem) (w:World) (vs:List Value),iO w M->dh M vs xs->Calls P f vs.toArray w (alH M w r)
def bs(s:ByteArray):aF:=s.data.toList
abbrev A_(l:aF):Value:= .string ⟨l.toArray⟩
abbrev PC.str(l:aF):PC:= .sc (A_ l)
abbrev PC.int(n:Int):PC:= .sc (.int .i64 n)
abbrev PC.bool(b:Bool):PC:= .sc (.bool b)
abbrev PC.st(xs:List PC):PC:= .agg false xs
abbrev PC.tp(xs:List PC):PC:= .agg true xs
theorem toList_bs(s:ByteArray):s.toList=bs s:=by
 exact ByteArray.toList_eq s
def PC.width:PC->Nat
 | .agg false xs=>xs.length
 |_=>1
def PC.plain:PC->Bool
 | .agg _ _=>false
 |_=>true
theorem tD{M:Mem}{v:Value}{x:PC}(h:jc M v x):v.cells.size=x.width:=by
 cases h with
 |sc v h=>cases v<;>simp_all [Value.cells,PC.width,Value.oneCell']
 |agg hs h1=>simp[Value.cells,PC.width,hs.length]
 |_=>simp[Value.cells,PC.width]
theorem jZ{M:Mem}{v:Value}{x:PC}(h:jc M v x)(hp:x.plain=true):v.cells=#[v]/\v.oneCell'=true:=by
 cases h with
 |sc v h=>cases v<;>simp_all [Value.cells,Value.oneCell']
 |agg hs h1=>simp[PC.plain]at hp
 |sE hs=>simp[PC.plain]at hp
 |_=>simp[Value.cells,Value.oneCell']
def bS(P:Program)(t:TypeId):Option Bool:=match P.underlying t with
 |some (.struct _)|some (.array _ _)=>some true
 |some _=>some false
 |none=>none
def aW(P:Program)(t:TypeId):Option Nat:=(P.info? t).map (·.size)
def dw(P:Program)(t:TypeId)(i:Nat):Option (Nat×Nat×Bool):=match P.underlying t with
 |some (.struct fs)=>match fs[i]? with
  |some f=>match aW P f.type,bS P f.type with
   |some s,some a=>some (f.offset,s,a)
   |_,_=>none
  |none=>none
 |_=>none
def aO(P:Program)(t:TypeId):Option Nat:=match P.underlying t with
 |some (.slice e)=>aW P e
 |_=>none
def kZ(P:Program)(t:TypeId):Option (Nat×Nat×Bool):=match P.underlying t with
 |some (.array m e)=>match aW P e,bS P e with
  |some s,some a=>some (m,s,a)
  |_,_=>none
 |_=>none
def isStr(P:Program)(t:TypeId):Bool:=match P.underlying t with|some .string=>true|_=>false
def isBool(P:Program)(t:TypeId):Bool:=match P.underlying t with|some .bool=>true|_=>false
def isSome(P:Program)(t:TypeId):Bool:=(P.underlying t).isSome
def intOf(P:Program)(t:TypeId):Option IntKind:=match P.underlying t with|some (.int k)=>some k|_=>none
def fT(P:Program)(t:TypeId):Bool:=match P.underlying t with|some (.slice e)=>(match P.underlying e with|some (.int .u8)=>true|_=>false)|_=>false
def isIface(P:Program)(t:TypeId):Bool:=match P.underlying t with|some (.interface _)=>true|_=>false
def fits(P:Program)(t:TypeId):PC->Bool
 | .agg false xs=>bS P t==some true&&aW P t==some xs.length
 | .agg true _=>false
 |_=>bS P t==some false
def part(off size:Nat)(a:Bool)(xs:List PC):Option PC:=if a then(if off+size<=xs.length then some (.agg false ((xs.drop off).take size))else none)else if size=1 then xs[off]? else none
def jT(P:Program)(op:BinOp)(t:TypeId)(k:Value->Prop):Value->Value->Prop
 | .int c x,.int d y=>
  match op with
  | .shl=>0<=y/\k (.int c (c.wrap (x*2^min y.toNat c.bits)))
  | .shr=>0<=y/\k (.int c (x.fdiv (2^min y.toNat c.bits)))
  |_=>c=d/\(match op with
   | .add=>k (.int c (c.wrap (x+y)))
   | .sub=>k (.int c (c.wrap (x-y)))
   | .mul=>k (.int c (c.wrap (x*y)))
   | .quo=>y≠0/\k (.int c (c.wrap (x.tdiv y)))
   | .rem=>y≠0/\k (.int c (x.tmod y))
   | .and=>k (.int c (bits .and c x y))
   | .or=>k (.int c (bits .or c x y))
   | .xor=>k (.int c (bits .xor c x y))
   | .andNot=>k (.int c (bits .andNot c x y))
   | .eql=>k (.bool (x==y))
   | .neq=>k (.bool (x !=y))
   | .lss=>k (.bool (decide (x<y)))
   | .leq=>k (.bool (decide (x<=y)))
   | .gtr=>k (.bool (decide (y<x)))
   | .geq=>k (.bool (decide (y<=x)))
   |_=>False)
 | .string x,.string y=>
  match op with
  | .add=>(bs x).length+(bs y).length<=9223372036854775807/\k (A_ (bs x++bs y))
  | .eql=>k (.bool (bs x==bs y))
  | .neq=>k (.bool (bs x !=bs y))
  | .lss=>k (.bool (Op.bytesLess (bs x) (bs y)))
  | .leq=>k (.bool (Op.bytesLess (bs x) (bs y)||bs x==bs y))
  | .gtr=>k (.bool !(Op.bytesLess (bs x) (bs y)||bs x==bs y))
  | .geq=>k (.bool !(Op.bytesLess (bs x) (bs y)))
  |_=>False
 | .bool x,.bool y=>
  isBool P t=true/\match op with
  | .eql=>k (.bool (x==y))
  | .neq=>k (.bool (x !=y))
  |_=>False
 |_,_=>False
def af(l:aF):List PC:=l.map λb=> .sc (.int .u8 b.toNat)
def fS:List AV->Option (List PC)
 |[]=>some []
 | .p x::l=>match fS l with|some r=>some (x::r)|none=>none
 |_::_=>none
def PC.Yz:PC->PC
 | .nil=> .sl []
 |x=>x
def PC.wk:PC->PC
 | .nil=> .sl []
 | .agg b xs=> .agg b (xs.map PC.Yz)
 |x=>x
def yj(P:Program)(t:TypeId)(k:AV->Prop):AV->Prop
 | .p (.sc (.string s))=>isStr P t=true/\k (.p (.int (bs s).length))
 | .p .nil=>(aO P t).isSome=true/\k (.p (.int 0))
 | .p (.sl xs)=>(aO P t).isSome=true/\k (.p (.int xs.length))
 |_=>False
def rW(d:Nat):Option AV->Option Nat
 |none=>some d
 |some (.p (.sc (.int _ i)))=>some i.toNat
 |_=>none
def rX:Option AV->Prop
 |some (.p (.sc (.int _ i)))=>0<=i
 |_=>True
def FI(n:Nat)(lo hi:Option AV)(k:Nat->Nat->Prop):Prop:=match rW 0 lo,rW n hi with
 |some l,some h=>rX lo/\rX hi/\l<=h/\h<=n/\k l h
 |_,_=>False
def EP(P:Program)(g:FuncId)(xs:List PC)(k:AV->Prop):Prop:=∃r,nc P g xs r/\k (.p r)
def wE(k:AV->Prop)(x y:AV):AV->Prop
 | .p (.sc (.bool t))=>k (if t=true then x else y)
 |_=>False
def Pb(k:AV->Prop):AV->Prop
 | .p y=>k (.p (.ref y))
 |_=>False
def zK(P:Program)(t:TypeId)(k:AV->Prop):AV->Prop
 | .p (.ref y)=>fits P t y=true/\k (.p y)
 |_=>False
def qO(P:Program)(t:TypeId)(i:Nat)(k:AV->Prop):AV->Prop
 | .p (.ref (.agg false xs))=>match dw P t i with
  |some (off,s,a)=>match part off s a xs with
   |some y=>s≠0/\k (.p (.ref y))
   |none=>False
  |none=>False
 |_=>False
def BL(P:Program)(t:TypeId)(i:Nat)(k:AV->Prop):AV->Prop
 | .p (.agg false xs)=>match dw P t i with
  |some (off,s,a)=>match part off s a xs with
   |some y=>k (.p y)
   |none=>False
  |none=>False
 |_=>False
def gQ(P:Program)(t:TypeId)(k:AV->Prop):AV->AV->Prop
 | .p (.sl xs),.p (.sc (.int _ n))=>0<=n/\match xs[n.toNat]? with
  |some y=>aO P t=some y.width/\k (.p (.ref y))
  |none=>False
 | .p (.ref (.agg false xs)),.p (.sc (.int _ n))=>match kZ P t with
  |some (m,s,a)=>0<=n/\n<(m:Int)/\(match part (n.toNat*s) s a xs with
   |some y=>k (.p (.ref y))
   |none=>False)
  |none=>False
 |_,_=>False
def uY(P:Program)(t:TypeId)(k:AV->Prop):AV->AV->Prop
 | .p (.sc (.string s)),.p (.sc (.int _ n))=>0<=n/\isStr P t=true/\match(bs s)[n.toNat]? with
  |some c=>k (.p (.sc (.int .u8 c.toNat)))
  |none=>False
 | .p (.agg false xs),.p (.sc (.int _ n))=>match kZ P t with
  |some (m,s,a)=>0<=n/\n<(m:Int)/\(match part (n.toNat*s) s a xs with
   |some y=>k (.p y)
   |none=>False)
  |none=>False
 |_,_=>False
def iI(P:Program)(t:TypeId)(lo hi:Option AV)(k:AV->Prop):AV->Prop
 | .p (.sc (.string s))=>isStr P t=true/\FI (bs s).length lo hi λl h=>k (.p (.str (((bs s).take h).drop l)))
 | .p (.sl xs)=>(aO P t).isSome=true/\(∀y∈xs,aO P t=some y.width)/\FI xs.length lo hi λl h=>k (.p (.sl ((xs.take h).drop l)))
 |_=>False
def bR(P:Program)(op:BinOp)(t:TypeId)(k:AV->Prop):AV->AV->Prop
 | .p (.sc a),.p (.sc b)=>jT P op t (λv=>k (.p (.sc v))) a b
 |_,_=>False
def wF(op:UnOp)(k:AV->Prop):AV->Prop
 | .p (.sc (.bool b))=>op= .not/\k (.p (.bool !b))
 | .p (.sc (.int c n))=>(op= .neg/\k (.p (.sc (.int c (c.wrap (0-n))))))\/(op= .xor/\k (.p (.sc (.int c (bits .xor c (if c.signed then-1 else c.max) n)))))
 |_=>False
def rM(P:Program)(src dst:TypeId)(k:AV->Prop):AV->Prop
 | .p (.sc (.int _ n))=>Av.isSome P src=true/\match Av.intOf P dst with
  |some c=>k (.p (.sc (.int c (c.wrap n))))
  |none=>False
 | .p (.sc (.string s))=>Av.isSome P src=true/\if isStr P dst=true then k (.p (.str (bs s)))else fT P dst=true/\isStr P src=true/\(bs s).length<=9223372036854775807/\k (.p (.sl (af (bs s))))
 | .p .nil=>fT P src=true/\isStr P dst=true/\k (.p (.str []))
 | .p (.sl xs)=>fT P src=true/\isStr P dst=true/\∃l,xs=af l/\k (.p (.str l))
 |_=>False
def Tf(P:Program)(t:TypeId)(k:AV->Prop):AV->Prop
 | .p (.sc v)=>Av.isSome P t=true/\isIface P t=false/\k (.p (.sc (.iface t v)))
 |_=>False
def uZ(P:Program)(t:TypeId)(k:AV->Prop):AV->Prop
 | .obj id off=>Av.isSome P t=true/\isIface P t=false/\k (.o_ t (.obj id off))
 |x=>Tf P t k x.nm
def fnW(f:Fn)(k:AV->Prop)(ys:List AV):Option (List PC)->Prop
 |some xs=>k (.p (.fn f xs))
 |none=>k (.mB f ys)
def sH(i:Nat)(k:AV->Prop):AV->Prop
 | .p (.agg true xs)=>match xs[i]? with
  |some y=>k (.p y)
  |none=>False
 |_=>False
def Tg(k:AV->Prop):AV->Prop
 | .p (.ref y)=>k (.p (.ref y))
 | .p (.fn (.func f) xs)=>k (.p (.fn (.func f) xs))
 |_=>False
def saA(k:AV->Prop)(xs:List PC):Option (Nat×Nat×Bool)->Prop
 |some (m,s,_)=>s=1/\0<m/\m<=xs.length/\(∀y∈xs,y.plain=true)/\k (.p (.ref (.agg false (xs.take m))))
 |none=>False
def saW(P:Program)(t:TypeId)(k:AV->Prop):AV->Prop
 | .p (.sl xs)=>saA k xs (kZ P t)
 |_=>False
def KT(k:AV->Prop):List AV->Prop
 |[.p (.sc (.int a x)),.p (.sc (.int b y))]=>a=b/\k (.p (.sc (.int a (if y<x then y else x))))
 |_=>False
def KU(k:AV->Prop):List AV->Prop
 |[.p (.sc (.int a x)),.p (.sc (.int b y))]=>a=b/\k (.p (.sc (.int a (if y>x then y else x))))
 |_=>False
def yl(P:Program)(k:AV->Prop)(xs:Option (List PC)):AV->Prop
 | .p (.fn (.func g) caps)=>match xs with
  |some xs=>EP P g (xs.map PC.wk++caps) k
  |none=>False
 |_=>False
def faO(P:Program)(t:TypeId)(i:Nat)(k:AV->Prop):AV->Prop
 | .obj id off=>match dw P t i with
  |some (o,s,_)=>s≠0/\k (.obj id (off+o))
  |none=>False
 |x=>qO P t i k x.nm
def Pa(P:Program)(op:Op)(e:Operand->AV)(k:AV->Prop):Prop:=match op with
 | .move x| .assign x=>k (e x)
 | .pick c a b=>wE k (e a) (e b) (e c).nm
 | .box _ x=>Pb k (e x).nm
 | .load t x=>zK P t k (e x).nm
 | .fieldAddr t x i=>faO P t i k (e x)
 | .field t x i=>BL P t i k (e x).nm
 | .indexAddr t x i=>gQ P t k (e x).nm (e i).nm
 | .index t x i=>uY P t k (e x).nm (e i).nm
 | .slice t x lo hi none=>iI P t (lo.map λy=>(e y).nm) (hi.map λy=>(e y).nm) k (e x).nm
 | .binOp op t x y _=>bR P op t k (e x).nm (e y).nm
 | .unOp op _ x=>wF op k (e x).nm
 | .convert src dst x=>rM P src dst k (e x).nm
 | .makeInterface t x=>uZ P t k (e x)
 | .makeFunc f fs cs=>(fs=#[]/\fnW f k (cs.toList.map e) (fS (cs.toList.map λy=>(e y).nm)))\/(fs≠#[]/\cs=#[]/\k (.pK f (fs.toList.map e)))
 | .extract x i=>sH i k (e x).nm
 | .nilCheck x=>Tg k (e x).nm
 | .sliceToArrayPointer t x=>saW P t k (e x).nm
 | .call c=>match c.callee with
  | .builtin .len=>c.args.size=1/\c.argTypes.size=1/\yj P (c.argTypes.getD 0 0) k (e (c.args.getD 0 (.tmp 0))).nm
  | .builtin .min=>KT k (c.args.toList.map λy=>(e y).nm)
  | .builtin .max=>KU k (c.args.toList.map λy=>(e y).nm)
  | .builtin _=>False
  | .value f=>yl P k (fS (c.args.toList.map λy=>(e y).nm)) (e f).nm
  | .invoke _ _=>False
 |_=>False
def opW(P:Program)(o:Oper)(e:Operand->AV)(k:AV->Prop):Prop:=Pa P o.op e k
end Go.Av
namespace Go.Av
open Go.RowKit
section
variable{P:Program}
def iZ{t:TypeId}{a:Bool}(h:bS P t=some a)(w:World):(Go.isAgg t).run P w= .ok a w:=by
 unfold bS at h;unfold Go.isAgg;cases hU:P.underlying t with
 |none=>grind
 |some d=>
  rw[hU]at h;cases d<;>simp at h<;>subst h<;>simp[run_underlying hU]
def run_sizeOf{t:TypeId}{s:Nat}(h:aW P t=some s)(w:World):(sizeOf t).run P w= .ok s w:=by
 unfold aW at h;cases hi:P.info? t with
 |none=>grind
 |some i=>rw[hi]at h;simp at h;subst h;simp[sizeOf,typeInfo,hi]
theorem JK{w:World}{M:Mem}{b off:Nat}{vs:List Value}(hH:iO w M)(eM:At M b off vs):∀j v,vs[j]?=some v->w.cell? ((⟨b,off,none⟩:Addr).add j)=some v:=λj v h=>by
 rw[Addr.add_lit];exact hH _ _ _ (eM j v h)
def rO{t:TypeId}{x:PC}{u:Value}{M:Mem}{w:World}{b off:Nat}(hf:fits P t x=true)(hr:jc M u x)(eM:At M b off u.cells.toList)(hH:iO w M):(loadVar t ⟨b,off,none⟩).run P w= .ok u w:=by
 have pl:x.plain=true->(bS P t=some false)->(loadVar t ⟨b,off,none⟩).run P w= .ok u w:=λhp ha=>by
  obtain⟨hc,_⟩:=jZ hr hp;have h0:=JK hH eM 0 u (by grind);rw[Addr.add_lit,qQ]at h0;simp[loadVar,iZ ha,load,Sem.run,h0]
 cases x with
 |agg b' xs=>
  cases b' with
  |true=>simp[fits]at hf
  |false=>
   simp only[fits,bG,ri]at hf;cases hr with
   |agg hs h1=>
    rename_i vs;have hl:=hs.length;have:=run_loadCells_list (P:=P) w ⟨b,off,none⟩ vs (λj v h=>by
     grind [JK,Value.cells])
    simp[loadVar,iZ hf.1,run_sizeOf hf.2,<-hl,this]
 |sc v=>exact pl rfl (by grind [fits])
 |nil=>exact pl rfl (by grind [fits])
 |sl v=>exact pl rfl (by grind [fits])
 |ref v=>exact pl rfl (by grind [fits])
 |fn f v=>exact pl rfl (by grind [fits])
theorem zL{sz:Nat}:∀(us:List Value),(∀u∈us,u.cells.size=sz)->∀(i j:Nat) (u:Value),us[i]?=some u->∀v,u.cells.toList[j]?=some v->(cellsOf us)[i*sz+j]?=some v
 |[],_,_,_,_,h,_,_=>by grind
 |a::us,hs,0,j,u,h,v,hv=>by
  grind [cellsOf]
 |a::us,hs,i+1,j,u,h,v,hv=>by
  simp at h;have ha:a.cells.toList.length=sz:=by grind
  simp only[cellsOf,cU];rw[List.getElem?_append_right (by grind),ha];have:=zL us (λu hu=>hs u (by grind)) i j u h v hv;rw[show(i+1)*sz+j-sz=i*sz+j by grind];exact this
theorem dx{sz:Nat}:∀(us:List Value),(∀u∈us,u.cells.size=sz)->(cellsOf us).length=us.length*sz
 |[],_=>by simp[cellsOf]
 |a::us,h=>by
  have:=dx us (λu hu=>h u (by grind))
  grind [cellsOf]
def At.sub{M:Mem}{b off:Nat}{vs ws:List Value}{k:Nat}(h:At M b off vs)(hs:∀(j:Nat) (v:Value),ws[j]?=some v->vs[k+j]?=some v):At M b (off+k) ws:=λj v e=>by
 rw[ow];exact h _ _ (hs j v e)
def vP{sz:Nat}(us:List Value)(h:∀u∈us,u.cells.size=sz)(n:Nat):∀(j:Nat) (v:Value),(cellsOf (us.take n))[j]?=some v->(cellsOf us)[j]?=some v:=by
 grind [cellsOf,List.take_append_drop]
def vQ{sz:Nat}(us:List Value)(h:∀u∈us,u.cells.size=sz)(n:Nat)(hn:n<=us.length):∀(j:Nat) (v:Value),(cellsOf (us.drop n))[j]?=some v->(cellsOf us)[n*sz+j]?=some v:=by
 intro j v e;have h1:cellsOf us=cellsOf (us.take n)++cellsOf (us.drop n):=by
  grind [cellsOf,List.take_append_drop]
 grind [dx,List.length_take]
def wM{M:Mem}{vs:List Value}{xs:List PC}(hs:dh M vs xs)(h1:∀v∈vs,v.oneCell'=true){off s:Nat}{a:Bool}{y:PC}(hp:part off s a xs=some y):∃u,jc M u y/\(∀(j:Nat) (v:Value),u.cells.toList[j]?=some v->vs[off+j]?=some v)/\(if a=true then u= .agg (vs.toArray.extract off (off+s))else vs[off]?=some u):=by
 unfold part at hp;cases a with
 |true=>
  simp only[cr]at hp;split at hp
  .rename_i hle;injection hp with hp;subst hp;refine⟨.agg ((vs.drop off).take s).toArray,.agg ((hs.drop off).take s) (λv hv=>h1 v (fq (oa hv))),?_,?_⟩
   all_goals grind [Value.cells]
  grind
 |false=>
  simp only[dZ,dc]at hp;split at hp
  .obtain⟨u,hu,hr⟩:=hs.get hp;have hone:=h1 u (Km hu);have hc:u.cells=#[u]:=by cases u<;>simp_all [Value.cells,Value.oneCell']
   refine⟨u,hr,?_,by grind⟩
   grind
  grind
end
variable{ag:Bool}{n:Int}{kd:IntKind}{xs:List PC}{off s:Nat}{i x:Operand}{y:PC}{t:TypeId}
section
variable{P:Program}{sl:Nat->AV}{o:Oper}
theorem bO{g:G}{v:Value}{x:PC}(h:bJ g v (.p x)):jc g.M v x:=by cases h;omega
theorem S_(ho:o.op= .move x\/o.op= .assign x):dy P sl o (bT sl x):=eU λw0 M0 F tb g a w hw h=>⟨a.eval x,by rcases ho with ho|ho<;>simp[execOp,ho],h x (by grind [Op.operands])⟩
theorem aeq{c y:Operand}{t:Bool}(ho:o.op= .pick c x y)(hc:(bT sl c).nm= .p (.sc (.bool t))):dy P sl o (if t=true then bT sl x else bT sl y):=eU λw0 M0 F tb g a w hw h=>by
 have h1:=cu (h c (by simp[ho,Op.operands]));rw[hc]at h1;have jS:=bO h1;generalize hv:a.eval c=v at jS;cases jS;refine⟨if t then a.eval x else a.eval y,by simp[execOp,ho,hv,asBool],?_⟩
 grind [Op.operands]
def Mem.ext(M:Mem)(b:Nat)(cs:List Value):Mem:=λb' o=>if b'=b then cs[o]? else M b' o
def FT{w0:World}{M0:Mem}{F:Nat->Prop}{tb:Tb}{g:G}{w:World}(hw:bf w0 M0 F tb g w)(cs:List Value)(e:TypeId)(fz:Nat×Nat):g.M.le (g.M.ext w.heap.size cs)/\iO (w.alloc (.cells cs.toArray e fz)) (g.M.ext w.heap.size cs)/\(∀b,b<w.heap.size->g.M.ext w.heap.size cs b=g.M b)/\Below w.heap.size w (w.alloc (.cells cs.toArray e fz))/\At (g.M.ext w.heap.size cs) w.heap.size 0 cs:=by
 have hB:Below w.heap.size w (w.alloc (.cells cs.toArray e fz)):=(Below.refl _ _).alloc (aX _) _;have hle:g.M.le (g.M.ext w.heap.size cs):=λb o v h=>by
  have:=hw.holds.lt h
  grind [Mem.ext]
 refine⟨hle,⟨λb o v h=>?_,hw.holds.g.mono hle⟩,λb hb=>?_,hB,λj v h=>?_⟩
 .unfold Mem.ext at h;split at h
  .grind [heap_alloc_new,World.cell?]
  .have hb:=hw.holds.lt h;rw[hB.cell (p:=⟨b,o,none⟩) hb];exact hw.holds b o v h
 all_goals grind [Mem.ext]
theorem ajX(ho:o.op= .box t x)(hx:(bT sl x).nm= .p y):dy P sl o (.p (.ref y)):=FU λw0 M0 F tb g a w hw h=>by
 have h1:=h x (by simp[ho,Op.operands]);rw[hx]at h1;have jS:=bO h1;obtain⟨e1,e2,e3,e4,e5⟩:=FT hw (a.eval x).cells.toList t (0,0);refine⟨.pointer (some ⟨w.heap.size,0,none⟩),w.alloc (.cells (a.eval x).cells t),_,?_,e1,O,e3,O,.p (.ref e5 (jS.mono e1))⟩;simp[execOp,ho,Instr.box,newVar,newRow]
theorem aer(ho:o.op= .load t x)(hx:(bT sl x).nm= .p (.ref y))(hf:fits P t y=true):dy P sl o (.p y):=bY λw0 M0 F tb g a w hw h=>by
 have h1:=h x (by simp[ho,Op.operands]);rw[hx]at h1;have jS:=bO h1;generalize hv:a.eval x=v at jS;cases jS;rename_i b off u eM hr;exact⟨u,by simp[execOp,ho,hv,Instr.loadAt,Instr.sureAddr,rO hf hr eM hw.holds],.p hr⟩
theorem HQ{i:Nat}(ho:o.op= .fieldAddr t x i)(hx:(bT sl x).nm= .p (.ref (.agg false xs)))(hf:dw P t i=some (off,s,ag))(hp:part off s ag xs=some y)(hs:s≠0):dy P sl o (.p (.ref y)):=bY λw0 M0 F tb g a w hw h=>by
 have h1:=h x (by simp[ho,Op.operands]);rw[hx]at h1;have jS:=bO h1;generalize hv:a.eval x=v at jS;cases jS;rename_i b bo u eM hr;cases hr with
 |agg qu hone=>
  rename_i vs;obtain⟨u',Ba,J7,_⟩:=wM qu hone hp;refine⟨.pointer (some ⟨b,bo+off,none⟩),?_,.p (.ref (At.sub eM (λj v e=>by grind [Value.cells])) Ba)⟩;unfold dw at hf;split at hf
  .rename_i fs hU;split at hf
   .rename_i f KQ;split at hf
    .rename_i s' a' hs' KO;injection hf with hf;obtain⟨rfl,rfl,rfl⟩:=U hf;simp[execOp,ho,hv,Instr.fieldAt,run_underlying hU,KQ,Instr.sureAddr,fieldPlace,run_sizeOf hs',hs,Addr.add_lit]
    grind
   grind
  grind
def wN{a:Bool}{vs:List Value}{u:Value}(hs:aW P t=some s)(ha:bS P t=some a)(h:if a=true then u= .agg (vs.toArray.extract off (off+s))else vs[off]?=some u)(w:World):(Go.part t vs.toArray off).run P w= .ok u w:=by
 unfold Go.part;cases a with
 |true=>simp only[cr]at h;subst h;simp[iZ ha,run_sizeOf hs]
 |false=>simp only[dZ,dc]at h;simp[iZ ha,h]
theorem YA{i:Nat}(ho:o.op= .field t x i)(hx:(bT sl x).nm= .p (.agg false xs))(hf:dw P t i=some (off,s,ag))(hp:part off s ag xs=some y):dy P sl o (.p y):=bY λw0 M0 F tb g a w hw h=>by
 have h1:=h x (by simp[ho,Op.operands]);rw[hx]at h1;have jS:=bO h1;generalize hv:a.eval x=v at jS;cases jS with
 |agg qu hone=>
  rename_i vs;obtain⟨u',Ba,_,hu3⟩:=wM qu hone hp;refine⟨u',?_,.p Ba⟩;unfold dw at hf;split at hf
  .rename_i fs hU;split at hf
   .rename_i f KQ;split at hf
    .rename_i s' a' hs' KO;injection hf with hf;obtain⟨rfl,rfl,rfl⟩:=U hf;have:=wN (P:=P) hs' KO hu3 w;simp[execOp,ho,hv,Instr.field,run_underlying hU,KQ,asAgg,this]
    grind
   grind
  grind
theorem HR{j:Nat}(ho:o.op= .indexAddr t x i)(hx:(bT sl x).nm= .p (.sl xs))(hi:(bT sl i).nm= .p (.sc (.int kd n)))(hn:n=(j:Nat))(hy:xs[j]?=some y)(hsz:aO P t=some y.width):dy P sl o (.p (.ref y)):=bY λw0 M0 F tb g a w hw h=>by
 have h1:=h x (by simp[ho,Op.operands]);rw[hx]at h1;have jS:=bO h1;have h2:=h i (by simp[ho,Op.operands]);rw[hi]at h2;have HP:=bO h2;generalize hv:a.eval x=v at jS;generalize zJ:a.eval i=v2 at HP;cases HP;cases jS with
 |dX=>grind
 |ug a=>grind
 |sl hl hc hm hs0 hu h1c eM qu=>
  rename_i b off m cap sz us;obtain⟨u,Ba,J7⟩:=qu.get hy;have hjl:j<us.length:=(KY.1 Ba).1;have hw':y.width=sz:=by rw[<-tD J7];grind
  refine⟨.pointer (some ⟨b,off+j*sz,none⟩),?_,.p (.ref (At.sub eM (λk v e=>zL us hu j k u Ba v e)) J7)⟩;unfold aO at hsz;split at hsz
  .rename_i el hU;have aqf:(0:Int)<=n/\n<(m:Int):=O;have aom:(0:Int)<=(j:Int)/\(j:Int)<(m:Int):=O;simp[execOp,ho,hv,zJ,hn,Instr.indexAt,asIntOf,run_underlying hU,show j<m by omega,run_sizeOf hsz,hw',Addr.add_lit]
  grind
theorem KR{m:Nat}(ho:o.op= .indexAddr t x i)(hx:(bT sl x).nm= .p (.ref (.agg false xs)))(hi:(bT sl i).nm= .p (.sc (.int kd n)))(hf:kZ P t=some (m,s,ag))(h0:0<=n)(hn:n<(m:Int))(hp:part (n.toNat*s) s ag xs=some y):dy P sl o (.p (.ref y)):=bY λw0 M0 F tb g a w hw h=>by
 have h1:=h x (by simp[ho,Op.operands]);rw[hx]at h1;have jS:=bO h1;have h2:=h i (by simp[ho,Op.operands]);rw[hi]at h2;have HP:=bO h2;generalize hv:a.eval x=v at jS;generalize zJ:a.eval i=v2 at HP;cases HP;cases jS;rename_i b bo u eM hr;cases hr with
 |agg qu hone=>
  rename_i vs;obtain⟨u',Ba,J7,_⟩:=wM qu hone hp;refine⟨.pointer (some ⟨b,bo+n.toNat*s,none⟩),?_,.p (.ref (At.sub eM (λj v e=>by grind [Value.cells])) Ba)⟩;unfold kZ at hf;split at hf
  .rename_i m' e hU;split at hf
   .rename_i s' a' hs' KO;injection hf with hf;obtain⟨rfl,rfl,rfl⟩:=U hf;simp[execOp,ho,hv,zJ,Instr.indexAt,asIntOf,run_underlying hU,Instr.sureAddr,h0,hn,run_sizeOf hs',Addr.add_lit]
   grind
  grind
theorem KS{m:Nat}(ho:o.op= .index t x i)(hx:(bT sl x).nm= .p (.agg false xs))(hi:(bT sl i).nm= .p (.sc (.int kd n)))(hf:kZ P t=some (m,s,ag))(h0:0<=n)(hn:n<(m:Int))(hp:part (n.toNat*s) s ag xs=some y):dy P sl o (.p y):=bY λw0 M0 F tb g a w hw h=>by
 have h1:=h x (by simp[ho,Op.operands]);rw[hx]at h1;have jS:=bO h1;have h2:=h i (by simp[ho,Op.operands]);rw[hi]at h2;have HP:=bO h2;generalize hv:a.eval x=v at jS;generalize zJ:a.eval i=v2 at HP;cases HP;cases jS with
 |agg qu hone=>
  rename_i vs;obtain⟨u',Ba,_,hu3⟩:=wM qu hone hp;refine⟨u',?_,.p Ba⟩;unfold kZ at hf;split at hf
  .rename_i m' e hU;split at hf
   .rename_i s' a' hs' KO;injection hf with hf;obtain⟨rfl,rfl,rfl⟩:=U hf;have:=wN (P:=P) hs' KO hu3 w;simp[execOp,ho,hv,zJ,Instr.index,asIntOf,run_underlying hU,h0,hn,run_sizeOf hs',this]
   grind
  grind
theorem YB{s:ByteArray}{j:Nat}{c:UInt8}(ho:o.op= .index t x i)(hx:(bT sl x).nm= .p (.sc (.string s)))(hi:(bT sl i).nm= .p (.sc (.int kd n)))(hn:n=(j:Nat))(ht:isStr P t=true)(hc:(bs s)[j]?=some c):dy P sl o (.p (.sc (.int .u8 c.toNat))):=bY λw0 M0 F tb g a w hw h=>by
 have h1:=h x (by simp[ho,Op.operands]);rw[hx]at h1;have jS:=bO h1;have h2:=h i (by simp[ho,Op.operands]);rw[hi]at h2;have HP:=bO h2;generalize hv:a.eval x=v at jS;generalize zJ:a.eval i=v2 at HP;cases HP;cases jS;refine⟨.int .u8 c.toNat,?_,.p (.sc _ rfl)⟩;unfold isStr at ht;split at ht
 .rename_i hU;have hs:s[j]?=some c:=by
   unfold bs at hc;have hj:=(KY.1 hc);obtain⟨hj1,hj2⟩:=hj;rw[getElem?_pos s j (U hj1)];congr 1
  simp[execOp,ho,hv,zJ,hn,Instr.index,asIntOf,run_underlying hU,hs]
 grind
end
end Go.Av
namespace Go.Av
open Go.RowKit
section
variable{P:Program}{sl:Nat->AV}{o:Oper}
def nN(s:ByteArray):(bs s).length=s.size:=by simp[bs]
theorem E9(s:ByteArray):A_ (bs s)= .string s:=by unfold A_;congr 1
def OQ(a b:ByteArray):bs (a++b)=bs a++bs b:=by simp[bs]
def qq{isS:Bool}{n cap l h:Nat}{lo hi:Option Value}(hlo:match lo with|none=>l=0|some v=>∃k,v= .int k l)(hhi:match hi with|none=>h=n|some v=>∃k,v= .int k h)(h1:l<=h)(h2:h<=cap)(w:World):(Instr.sliceBounds isS n cap lo hi none).run P w= .ok (l,h,cap) w:=by
 unfold Instr.sliceBounds;cases lo with
 |none=>
  simp only at hlo;subst hlo;cases hi with
  |none=>simp_all
  |some v=>obtain⟨k,rfl⟩:=hhi;simp[Instr.sliceBound,asIntOf,show h<=cap by omega]
 |some u=>
  obtain⟨k,rfl⟩:=hlo;cases hi with
  |none=>simp only at hhi;subst hhi;simp[Instr.sliceBound,asIntOf,h1]
  |some v=>obtain⟨k',rfl⟩:=hhi;simp[Instr.sliceBound,asIntOf,show h<=cap by omega,h1]
def oS{g:G}{a:Act}{lo:Option Operand}{l d:Nat}(hr:∀y,lo=some y->bJ g (a.eval y) ((bT sl y).nm))(h:match lo.map (λy=>(bT sl y).nm)with|none=>l=d|some (.p (.sc (.int _ i)))=>i=(l:Int)|_=>False):match lo.map a.eval with|none=>l=d|some v=>∃k,v= .int k l:=by
 cases lo with
 |none=>grind
 |some y=>
  simp only[Option.map_some]at h⊢;have hy:=hr y rfl;split at h
  .grind
  .rename_i k i hh;simp only[uH]at hh;rw[hh]at hy;have:=bO hy;generalize a.eval y=v at this;cases this
   grind
  grind
def Se{t:TypeId}{x:Operand}{lo hi:Option Operand}{s:ByteArray}{l h:Nat}(ho:o.op= .slice t x lo hi none)(hx:(bT sl x).nm= .p (.sc (.string s)))(ht:isStr P t=true)(hlo:match lo.map (λy=>(bT sl y).nm)with|none=>l=0|some (.p (.sc (.int _ i)))=>i=(l:Int)|_=>False)(hhi:match hi.map (λy=>(bT sl y).nm)with|none=>h=(bs s).length|some (.p (.sc (.int _ i)))=>i=(h:Int)|_=>False)(h1:l<=h)(h2:h<=(bs s).length):dy P sl o (.p (.str (((bs s).take h).drop l))):=bY λw0 M0 F tb g a w hw hr=>by
 have h3:=hr x (by simp[ho,Op.operands]);rw[hx]at h3;have h3':=bO h3;generalize hv:a.eval x=v at h3';cases h3';have b1:=oS (λy e=>hr y (by grind [Op.operands])) hlo;have b2:=oS (λy e=>hr y (by grind [Op.operands])) hhi;rw[nN]at b2 h2;have hb:=qq (P:=P) (isS:=false) (cap:=s.size) b1 b2 h1 h2 w;refine⟨A_ (((bs s).take h).drop l),?_,.p (.sc _ rfl)⟩;unfold isStr at ht;split at ht
 .rename_i hU;have e:A_ (((bs s).take h).drop l)= .string (s.extract l h):=by
   rw[<-E9];congr 1;simp[bs,xT]
  rw[e];simp[execOp,ho,hv,Instr.sliceAt,Instr.slice,run_underlying hU,hb]
 grind
def Sf{t:TypeId}{x:Operand}{lo hi:Option Operand}{xs:List PC}{l h:Nat}(ho:o.op= .slice t x lo hi none)(hx:(bT sl x).nm= .p (.sl xs))(ht:(aO P t).isSome=true)(RB:∀y∈xs,aO P t=some y.width)(hlo:match lo.map (λy=>(bT sl y).nm)with|none=>l=0|some (.p (.sc (.int _ i)))=>i=(l:Int)|_=>False)(hhi:match hi.map (λy=>(bT sl y).nm)with|none=>h=xs.length|some (.p (.sc (.int _ i)))=>i=(h:Int)|_=>False)(h1:l<=h)(h2:h<=xs.length):dy P sl o (.p (.sl ((xs.take h).drop l))):=bY λw0 M0 F tb g a w hw hr=>by
 have h3:=hr x (by simp[ho,Op.operands]);rw[hx]at h3;have h3':=bO h3;generalize hv:a.eval x=v at h3';have b1:=oS (λy e=>hr y (by grind [Op.operands])) hlo;have b2:=oS (λy e=>hr y (by grind [Op.operands])) hhi;obtain⟨es,OS⟩:=qt.1 ht;have hU:∃el,P.underlying t=some (.slice el)/\aW P el=some es:=by
  grind [aO]
 obtain⟨el,hU,hsz⟩:=hU;cases h3' with
 |dX=>
  simp at h2 b2;obtain rfl:h=0:=O;obtain rfl:l=0:=O;have hb:=qq (P:=P) (isS:=true) (n:=0) (cap:=0) b1 (U b2) h1 (aX _) w;exact⟨.slice none 0 0,by simp[execOp,ho,hv,Instr.sliceAt,Instr.slice,run_underlying hU,hb,run_sizeOf hsz],.p (U jc.dX)⟩
 |ug ad=>
  simp at h2 b2;obtain rfl:h=0:=O;obtain rfl:l=0:=O;have hb:=qq (P:=P) (isS:=true) (n:=0) (cap:=0) b1 (U b2) h1 (aX _) w;exact⟨.slice (some ad) 0 0,by simp[execOp,ho,hv,Instr.sliceAt,Instr.slice,run_underlying hU,hb,run_sizeOf hsz],.p (by simpa using jc.ug ad)⟩
 |sl hl hc hm hs0 hu h1c eM qu=>
  rename_i b off n cap sz us;have hlx:=qu.length;have hn:n=xs.length:=O;have hb:=qq (P:=P) (isS:=true) (n:=n) (cap:=cap) b1 (by rw[hn];exact b2) h1 O w;have ad0:0<xs.length->es=sz:=λhp=>by
   have hy:=RB (xs[0]'hp) (bB hp)
   obtain⟨u,Ba,J7⟩:=qu.get (i:=0) (n_ hp);have:u.cells.size=sz:=hu u (Km Ba)
   grind [tD]
  have hoff:(if cap=l then(some (⟨b,off,none⟩:Addr))else some ⟨b,off+l*es,none⟩)=some ⟨b,off+(if cap=l then 0 else l*es),none⟩:=by grind
  refine⟨.slice (some ⟨b,off+(if cap=l then 0 else l*es),none⟩) (h-l) (cap-l),?_,.p ?_⟩
  .rw[<-hoff];simp[execOp,ho,hv,Instr.sliceAt,Instr.slice,run_underlying hU,hb,run_sizeOf hsz,Addr.add_lit]
  .have pI:∀u∈(us.take h).drop l,u.cells.size=sz:=λu Hs=>hu u (oa (fq Hs));refine .sl (sz:=sz) (us:=(us.take h).drop l) (by grind) O O hs0 pI (λv hv=>h1c v (by
    obtain⟨u,Ba,J7⟩:=Bb.1 hv;exact Bb.2 ⟨u,oa (fq Ba),J7⟩)) ?_ ((qu.take h).drop l)
   by_cases kW:cap=l
   .have:(us.take h).drop l=[]:=by grind
    rw[this];intro j v e;simp[cellsOf]at e
   .rw[ah kW];by_cases hp:0<xs.length
    .rw[ad0 hp];refine eM.sub λj v e=>?_;have hut:∀u∈us.take h,u.cells.size=sz:=λu Hs=>hu u (oa Hs);exact vP us hu h _ _ (vQ (us.take h) hut l (by grind) j v e)
    grind
def run_equalIn_bool{t:TypeId}(h:P.underlying t=some .bool)(d:Nat)(a b:Bool)(w:World):(Op.equalIn (d+1) t (.bool a) (.bool b)).run P w= .ok (a==b) w:=by
 simp[Op.equalIn,run_underlying h]
def run_eql_bool{t:TypeId}(h:P.underlying t=some .bool)(a b:Bool)(w:World):(binOp .eql t (.bool a) (.bool b)).run P w= .ok (.bool (a==b)) w:=by
 show(do pure (.bool (<-Op.equalIn (9999+1) t (.bool a) (.bool b))):Sem Value).run P w=_;simp[run_equalIn_bool h]
def run_neq_bool{t:TypeId}(h:P.underlying t=some .bool)(a b:Bool)(w:World):(binOp .neq t (.bool a) (.bool b)).run P w= .ok (.bool (a !=b)) w:=by
 show(do pure (.bool (!(<-Op.equalIn (9999+1) t (.bool a) (.bool b)))):Sem Value).run P w=_;simp[run_equalIn_bool h,bne]
theorem bU{g:G}{v u:Value}(h:bJ g v (.p (.sc u))):v=u:=by cases bO h;rfl
theorem XQ{op:BinOp}{t t':TypeId}{x y:Operand}{u v:Value}{k:Value->Prop}(ho:o.op= .binOp op t x y t')(hx:(bT sl x).nm= .p (.sc u))(hy:(bT sl y).nm= .p (.sc v))(hb:jT P op t k u v):∃r,k r/\dy P sl o (.p (.sc r)):=by
 have key:∀r,r.oneCell'=true->(∀w,(do eqGuard op t x y u v;binOp op t u v).run P w= .ok r w)->dy P sl o (.p (.sc r)):=λr h1 hr=>
  bY λw0 M0 F tb g a w hw h=>by
   have e1:=h x (by simp[ho,Op.operands]);rw[hx]at e1;have e2:=h y (by simp[ho,Op.operands]);rw[hy]at e2;have e1:=bU e1;have e2:=bU e2;refine⟨r,?_,.p (.sc _ h1)⟩;have e:execOp a.eval o=(do let r<-(do eqGuard op t x y u v;binOp op t u v);pure (.value r)):=by grind [execOp]
   rw[e,Sem.run_bind,hr w];rfl
 cases u with
 |int c m=>
  cases v with
  |int d n=>
   cases op<;>(try unfold jT at hb)<;>(try dsimp only at hb)<;>(try simp only[and_false]at hb)
   case shl=>exact⟨_,hb.2,key _ rfl λw=>by simp[go_sem,Op.shift,show¬n<0 by omega]⟩
   case shr=>exact⟨_,hb.2,key _ rfl λw=>by simp[go_sem,Op.shift,show¬n<0 by omega]⟩
   case quo=>obtain⟨rfl,h0,hb⟩:=hb;exact⟨_,hb,key _ rfl λw=>by simp[go_sem,h0]⟩
   case rem=>obtain⟨rfl,h0,hb⟩:=hb;exact⟨_,hb,key _ rfl λw=>by simp[go_sem,h0]⟩
   all_goals (obtain⟨rfl,hb⟩:=hb;exact⟨_,hb,key _ rfl λw=>by simp[go_sem]⟩)
  |_=>simp[jT]at hb
 |string s=>
  cases v with
  |string t=>
   cases op<;>(try unfold jT at hb)<;>(try dsimp only at hb)
   case add=>exact⟨_,hb.2,key _ rfl λw=>by
    rw[nN,nN]at hb;have e:A_ (bs s++bs t)= .string (s++t):=by rw[<-OQ,E9]
    rw[e];simp[go_sem,binOp,hb.1]⟩
   case neq=>exact⟨_,hb,key _ rfl λw=>by simp[go_sem,binOp,Op.stringOp,toList_bs,bne]⟩
   all_goals exact⟨_,hb,key _ rfl λw=>by simp[go_sem,binOp,Op.stringOp,toList_bs]⟩
  |_=>simp[jT]at hb
 |bool b=>
  cases v with
  |bool d=>
   have hU:isBool P t=true:=by simp only[jT]at hb;grind
   have hU':P.underlying t=some .bool:=by
    grind [isBool]
   cases op<;>(try unfold jT at hb)<;>(try dsimp only at hb)<;>(try simp only[and_false]at hb)
   case eql=>exact⟨_,hb.2,key _ rfl λw=>by simp[go_sem,run_eql_bool hU']⟩
   case neq=>exact⟨_,hb.2,key _ rfl λw=>by simp[go_sem,run_neq_bool hU']⟩
  |_=>simp[jT]at hb
 |_=>simp[jT]at hb
end
variable{n:Int}{c:IntKind}{xs:List PC}{x:Operand}{d s t:TypeId}
section
variable{P:Program}{sl:Nat->AV}{o:Oper}
def DM(c:IntKind)(n:Int)(w:World):(Op.unary .neg (.int c n)).run P w= .ok (.int c (c.wrap (0-n))) w:=by simp[Op.unary,Op.intArith]
theorem ajY{b:Bool}(ho:o.op= .unOp .not t x)(hx:(bT sl x).nm= .p (.sc (.bool b))):dy P sl o (.p (.bool !b)):=bY λw0 M0 F tb g a w hw h=>by
 have e1:=h x (by grind [Op.operands]);rw[hx]at e1;have e1:=bU e1;exact⟨.bool !b,by simp[execOp,ho,e1,Op.unary],.p (.sc _ rfl)⟩
theorem ajZ(ho:o.op= .unOp .neg t x)(hx:(bT sl x).nm= .p (.sc (.int c n))):dy P sl o (.p (.sc (.int c (c.wrap (0-n))))):=bY λw0 M0 F tb g a w hw h=>by
 have e1:=h x (by grind [Op.operands]);rw[hx]at e1;have e1:=bU e1;have:=DM (P:=P) c n w;exact⟨.int c (c.wrap (0-n)),by simp only[execOp,ho,e1,Sem.run_bind,this];rfl,.p (.sc _ rfl)⟩
def DN(c:IntKind)(n:Int)(w:World):(Op.unary .xor (.int c n)).run P w= .ok (.int c (bits .xor c (if c.signed then-1 else c.max) n)) w:=by simp[Op.unary,Op.intBits,bits]
theorem aj0(ho:o.op= .unOp .xor t x)(hx:(bT sl x).nm= .p (.sc (.int c n))):dy P sl o (.p (.sc (.int c (bits .xor c (if c.signed then-1 else c.max) n)))):=bY λw0 M0 F tb g a w hw h=>by
 have e1:=h x (by grind [Op.operands]);rw[hx]at e1;have e1:=bU e1;have:=DN (P:=P) c n w;exact⟨.int c (bits .xor c (if c.signed then-1 else c.max) n),by simp only[execOp,ho,e1,Sem.run_bind,this];rfl,.p (.sc _ rfl)⟩
def FY(h:Av.isSome P t=true):∃d,P.underlying t=some d:=qt.1 h
theorem YC{c':IntKind}(ho:o.op= .convert s d x)(hx:(bT sl x).nm= .p (.sc (.int c' n)))(hs:Av.isSome P s=true)(hd:Av.intOf P d=some c):dy P sl o (.p (.sc (.int c (c.wrap n)))):=bY λw0 M0 F tb g a w hw h=>by
 have e1:=h x (by grind [Op.operands]);rw[hx]at e1;have e1:=bU e1;obtain⟨u,hu⟩:=FY hs;have hd':P.underlying d=some (.int c):=by
  grind [Av.intOf]
 exact⟨.int c (c.wrap n),by simp[execOp,ho,e1,convert,run_underlying hu,run_underlying hd',Conv.intToInt],.p (.sc _ rfl)⟩
def nt(h:isStr P t=true):P.underlying t=some .string:=by
 grind [isStr]
def pW(h:fT P t=true):∃e,P.underlying t=some (.slice e)/\P.underlying e=some (.int .u8):=by
 grind [fT]
theorem Ta{b:ByteArray}(ho:o.op= .convert s d x)(hx:(bT sl x).nm= .p (.sc (.string b)))(hs:Av.isSome P s=true)(hd:isStr P d=true):dy P sl o (.p (.str (bs b))):=bY λw0 M0 F tb g a w hw h=>by
 have e1:=h x (by grind [Op.operands]);rw[hx]at e1;have e1:=bU e1;obtain⟨u,hu⟩:=FY hs;refine⟨.string b,by simp[execOp,ho,e1,convert,run_underlying hu,run_underlying (nt hd)],?_⟩
 grind [E9]
theorem mO(M:Mem):∀(l:aF),dh M (l.map λb=>Value.int .u8 b.toNat) (af l)
 |[]=> .nil
 |b::l=> .cons (.sc _ rfl) (mO M l)
theorem lU{M:Mem}:∀(l:aF) {us:List Value},dh M us (af l)->us=l.map λb=>Value.int .u8 b.toNat
 |[],_,h=>by cases h;rfl
 |b::l,_,h=>by
  cases h with
  |cons hr hs=>cases hr;rw[lU l hs];rfl
theorem i_:∀(l:aF),cellsOf (l.map λb=>Value.int .u8 b.toNat)=l.map λb=>Value.int .u8 b.toNat
 |[]=>rfl
 |b::l=>by
  have:=i_ l
  grind [cellsOf,Value.cells]
theorem Tc{b:ByteArray}(ho:o.op= .convert s d x)(hx:(bT sl x).nm= .p (.sc (.string b)))(hs:isStr P s=true)(hd:fT P d=true)(hl:(bs b).length<=9223372036854775807):dy P sl o (.p (.sl (af (bs b)))):=FU λw0 M0 F tb g a w hw h=>by
 have e1:=h x (by grind [Op.operands]);rw[hx]at e1;have e1:=bU e1;obtain⟨e,vN,FZ⟩:=pW hd;have hr:=run_bytes_of_string (P:=P) w s d e b (nt hs) vN FZ;rw[nN]at hl;have hcap:=grownCap_ge w b.size 0 e;have Ei:=grownCap_le_maxLen w b.size 0 e (by grind [maxLen]);have RB:bf w0 M0 F tb g w.drew:=hw.drew;generalize grownCap w b.size 0 e=cap at hr hcap Ei;obtain⟨m1,m2,m3,m4,m5⟩:=FT RB (bytesRow b cap).toList e ((bytesRow b cap).size,(bytesRow b cap).size+1);have eM:At (g.M.ext w.drew.heap.size (bytesRow b cap).toList) w.drew.heap.size 0 (cellsOf ((bs b).map λb=>Value.int .u8 b.toNat)):=λj v hj=>by
  refine m5 j v ?_
  grind [i_,bs,bytesRow]
 refine⟨.slice (some ⟨w.heap.size,0,none⟩) b.size cap,_,_,?_,m1,U m2,m3,((Below.refl _ w).drew).trans (by simp_all),.p (.sl (sz:=1) (by simp[bs]) hcap Ei (by decide) (by simp[Value.cells]) (by grind [i_,Value.oneCell']) eM (mO _ _))⟩;simp only[execOp,ho,e1,Sem.run_bind,hr];rfl
theorem Td{l:aF}(ho:o.op= .convert s d x)(hx:(bT sl x).nm= .p (.sl (af l)))(hs:fT P s=true)(hd:isStr P d=true):dy P sl o (.p (.str l)):=bY λw0 M0 F tb g a w hw h=>by
 have h1:=h x (by grind [Op.operands]);rw[hx]at h1;have jS:=bO h1;obtain⟨e,vN,FZ⟩:=pW hs;generalize hv:a.eval x=v at jS;generalize hz:af l=zs at jS;refine⟨A_ l,?_,.p (.sc _ rfl)⟩;cases jS with
 |dX=>
  have:l=[]:=by cases l<;>simp_all [af]
  subst this;have hr:=run_convert_bytes_string (P:=P) w s d e none 0 0 vN FZ (nt hd);simp only[execOp,ho,hv,Sem.run_bind,hr];rfl
 |ug ad=>
  have:l=[]:=by cases l<;>simp_all [af]
  subst this;have hr:=run_convert_bytes_string (P:=P) w s d e (some ad) 0 0 vN FZ (nt hd);simp only[execOp,ho,hv,Sem.run_bind,hr];rfl
 |sl hn hc hm hsz hu h1c eM qu=>
  rename_i b off n cap sz us;subst hz;have pI:=lU l qu;subst pI;rw[i_]at eM;have hn':n=l.length:=by grind
  subst hn';have hr:=run_convert_bytes_back (P:=P) w s d e ⟨b,off,none⟩ cap l vN FZ (nt hd) (λj hj=>by
   rw[Addr.add_lit];exact hw.holds _ _ _ (eM j _ (by grind)))
  simp only[execOp,ho,hv,Sem.run_bind,hr];rfl
theorem Pc(ho:o.op= .convert s d x)(hx:(bT sl x).nm= .p .nil)(hs:fT P s=true)(hd:isStr P d=true):dy P sl o (.p (.str [])):=bY λw0 M0 F tb g a w hw h=>by
 have h1:=h x (by grind [Op.operands]);rw[hx]at h1;have jS:=bO h1;obtain⟨e,vN,FZ⟩:=pW hs;generalize hv:a.eval x=v at jS;cases jS;have hr:=run_convert_bytes_string (P:=P) w s d e none 0 0 vN FZ (nt hd);refine⟨A_ [],?_,.p (.sc _ rfl)⟩;simp only[execOp,ho,hv,Sem.run_bind,hr];rfl
theorem YD{v:Value}(ho:o.op= .makeInterface t x)(hx:(bT sl x).nm= .p (.sc v))(hs:Av.isSome P t=true)(hi:isIface P t=false):dy P sl o (.p (.sc (.iface t v))):=bY λw0 M0 F tb g a w hw h=>by
 have e1:=h x (by grind [Op.operands]);rw[hx]at e1;have e1:=bU e1;obtain⟨u,hu⟩:=FY hs;refine⟨.iface t v,?_,.p (.sc _ rfl)⟩;have hr:(Instr.makeInterface t v).run P w= .ok (.iface t v) w:=by
  unfold Instr.makeInterface;simp only[Sem.run_bind,run_underlying hu,Result.andThen_ok];cases u<;>first|rfl|(unfold isIface at hi;rw[hu]at hi;simp at hi)
 simp only[execOp,ho,e1,Sem.run_bind,hr];rfl
theorem Te{id off:Nat}(ho:o.op= .makeInterface t x)(hx:bT sl x= .obj id off)(hs:Av.isSome P t=true)(hi:isIface P t=false):dy P sl o (.o_ t (.obj id off)):=eU λw0 M0 F tb g a w hw h=>by
 have e1:=h x (by grind [Op.operands]);rw[hx]at e1;obtain⟨u,hu⟩:=FY hs;refine⟨.iface t (a.eval x),?_,.o_ e1⟩;have hr:(Instr.makeInterface t (a.eval x)).run P w= .ok (.iface t (a.eval x)) w:=by
  unfold Instr.makeInterface;simp only[Sem.run_bind,run_underlying hu,Result.andThen_ok];cases u<;>first|rfl|(unfold isIface at hi;rw[hu]at hi;simp at hi)
 simp only[execOp,ho,Sem.run_bind,hr];rfl
theorem nT{g:G}{a:Act}:∀(l:List Operand) (xs:List PC),(∀y∈l,bJ g (a.eval y) (bT sl y).nm)->fS (l.map λy=>(bT sl y).nm)=some xs->dh g.M (l.map a.eval) xs
 |[],xs,_,h=>by simp[fS]at h;subst h;exact .nil
 |y::l,xs,hr,h=>by
  have h1:=hr y H;simp only[dB]at h⊢;cases he:(bT sl y).nm with
  |p x=>
   rw[he]at h h1;simp only[fS]at h;split at h
   .rename_i r hr';injection h with h;subst h;exact .cons (bO h1) (nT l r (λz hz=>hr z (by grind)) hr')
   grind
  |_=>rw[he]at h;simp[fS]at h
theorem aok{f:Fn}{cs:Array Operand}(ho:o.op= .makeFunc f #[] cs)(hx:fS (cs.toList.map λy=>(bT sl y).nm)=some xs):dy P sl o (.p (.fn f xs)):=bY λw0 M0 F tb g a w hw h=>by
 have:=nT (g:=g) (a:=a) cs.toList xs (λy hy=>h y (by grind [Op.operands])) hx;refine⟨.func f #[] (cs.map a.eval),?_,?_⟩
 .simp[execOp,ho,Instr.makeFunc]
 .have e:(cs.map a.eval)=((cs.toList.map a.eval).toArray):=by grind
  rw[e];exact .p (.fn this)
theorem wR{g:G}{a:Act}:∀(l:List Operand),(∀y∈l,bJ g (a.eval y) (bT sl y))->aV g (l.map a.eval) (l.map (bT sl))
 |[],_=> .nil
 |y::l,h=> .cons (h y H) (wR l λz hz=>h z (by grind))
theorem aj1{f:Fn}{cs:Array Operand}(ho:o.op= .makeFunc f #[] cs):dy P sl o (.mB f (cs.toList.map (bT sl))):=eU λw0 M0 F tb g a w hw h=>by
 have:=wR (g:=g) (a:=a) cs.toList (λy hy=>h y (by grind [Op.operands]));refine⟨.func f #[] (cs.map a.eval),?_,?_⟩
 .simp[execOp,ho,Instr.makeFunc]
 .have e:(cs.map a.eval)=((cs.toList.map a.eval).toArray):=by grind
  rw[e];exact .mB this
theorem aj2{f:Fn}{fs:Array Operand}(ho:o.op= .makeFunc f fs #[]):dy P sl o (.pK f (fs.toList.map (bT sl))):=eU λw0 M0 F tb g a w hw h=>by
 have:=wR (g:=g) (a:=a) fs.toList (λy hy=>h y (by grind [Op.operands]));refine⟨.func f (fs.map a.eval) #[],?_,?_⟩
 .simp[execOp,ho,Instr.makeFunc]
 .have e:(fs.map a.eval)=((fs.toList.map a.eval).toArray):=by grind
  rw[e];exact .pK this
theorem Pd{i:Nat}{y:PC}(ho:o.op= .extract x i)(hx:(bT sl x).nm= .p (.agg true xs))(hy:xs[i]?=some y):dy P sl o (.p y):=bY λw0 M0 F tb g a w hw h=>by
 have h1:=h x (by grind [Op.operands]);rw[hx]at h1;have jS:=bO h1;generalize hv:a.eval x=v at jS;cases jS with
 |sE hs=>
  obtain⟨u,hu,hr⟩:=hs.get hy;exact⟨u,by simp[execOp,ho,hv,Instr.extract,hu],.p hr⟩
theorem zO{M:Mem}:∀{us:List Value} {xs:List PC},dh M us xs->(∀y∈xs,y.plain=true)->cellsOf us=us/\∀u∈us,u.oneCell'=true
 |_,_,.nil,_=>⟨rfl,H⟩
 |_,_,.cons (v:=v) (vs:=vs) h hs,hp=>by
  obtain⟨e1,e2⟩:=jZ h (hp _ H);obtain⟨k1,k2⟩:=zO hs (λy hy=>hp y (by grind))
  grind [cellsOf]
theorem aj3{m:Nat}{ag:Bool}(ho:o.op= .sliceToArrayPointer t x)(hx:(bT sl x).nm= .p (.sl xs))(hA:kZ P t=some (m,1,ag))(h0:0<m)(hm:m<=xs.length)(hp:∀y∈xs,y.plain=true):dy P sl o (.p (.ref (.agg false (xs.take m)))):=bY λw0 M0 F tb g a w hw h=>by
 have h1:=h x (by grind [Op.operands]);rw[hx]at h1;have jS:=bO h1;generalize hv:a.eval x=v at jS;unfold kZ at hA;split at hA
 .rename_i m' el hU;split at hA
  .rename_i s' a' hs' KO;injection hA with hA;obtain⟨rfl,rfl,rfl⟩:=U hA;cases jS with
   |dX=>grind
   |ug ad=>grind
   |sl hn hc hmx hsz hu hone eM hs=>
    rename_i b off n cap sz us;obtain⟨k1,k2⟩:=zO hs hp;have hl:=hs.length;refine⟨.pointer (some ⟨b,off,none⟩),?_,.p (.ref (u:= .agg (us.take m').toArray) (λj v e=>?_) (.agg (hs.take m') (λv hv=>k2 v (oa hv))))⟩
    .simp[execOp,ho,hv,Instr.arrayAt,run_underlying hU,show¬n<m' by omega]
    .rw[k1]at eM;simp only[Value.cells]at e;rw[u_]at e;split at e
     .exact eM j v e
     grind
  grind
 grind
theorem aes{y:PC}(ho:o.op= .nilCheck x)(hx:(bT sl x).nm= .p (.ref y)):dy P sl o (.p (.ref y)):=bY λw0 M0 F tb g a w hw h=>by
 have h1:=h x (by grind [Op.operands]);rw[hx]at h1;have jS:=bO h1;generalize hv:a.eval x=v at jS;refine⟨v,?_,.p jS⟩;cases jS;simp[execOp,ho,hv]
theorem aeu{f:FuncId}{ys:List PC}(ho:o.op= .nilCheck x)(hx:(bT sl x).nm= .p (.fn (.func f) ys)):dy P sl o (.p (.fn (.func f) ys)):=bY λw0 M0 F tb g a w hw h=>by
 have h1:=h x (by grind [Op.operands]);rw[hx]at h1;have jS:=bO h1;generalize hv:a.eval x=v at jS;refine⟨v,?_,.p jS⟩;cases jS;simp[execOp,ho,hv]
end
end Go.Av
