/- DiskShapes, part 20: what functions compute, and its plain law; no condition. -/
import Derived.Test.YtgkdpbambfgahaaGreatDoorWas
import Derived.ProofKit
import Derived.OpenShut
import Derived.Carry
import Derived.SizedLaws
import Derived.Handed
import Derived.Lib.LaidU8
import Derived.MakeChecks
set_option linter.all false
set_option maxRecDepth 100000
set_option maxHeartbeats 64000000
namespace Go.cC
structure eu(σ:Type) where
 ld:σ->Int->σ×Nd×Int
 sv:σ->Nd->σ×Int×Int
 dr:σ->Int->σ
structure C8(σ:Type) where
 s:σ
 old:List Int
 pg:List Int
 key:Key
 e:Int
structure pQ(σ:Type) where
 s:σ
 root:Int
 was:Int
 had:Bool
 e:Int
namespace eu
variable{σ:Type}(I:eu σ)
def tl(s:σ)(p:Int):σ×Nd×Int:=if(I.ld s p).2.2=0 then(if rB (I.ld s p).2.1=true then((I.ld s p).1,(I.ld s p).2.1,0)else((I.ld s p).1,nZ,10))else((I.ld s p).1,nZ,(I.ld s p).2.2)
def way(key:Key):Nat->σ->Int->List Step->σ×List Step×Int
 |0,s,page,out=>if page=0 then(s,out,0)else(s,[],10)
 |f+1,s,page,out=>if page=0 then(s,out,0)else
  if(I.tl s page).2.2=0 then
   if(I.tl s page).2.1.lf=true then((I.tl s page).1,out++[⟨(I.tl s page).2.1,page,dy (I.tl s page).2.1 key⟩],0)
   else way key f (I.tl s page).1 ((I.tl s page).2.1.vs.getD (dy (I.tl s page).2.1 key) 0) (out++[⟨(I.tl s page).2.1,page,dy (I.tl s page).2.1 key⟩])
  else((I.tl s page).1,[],(I.tl s page).2.2)
def lN(g:σ->Int->List Int->σ×List Int×Int):List Int->σ->List Int->σ×List Int×Int
 |[],s,a=>(s,a,0)
 |p::l,s,a=>if(g s p a).2.2=0 then lN g l (g s p a).1 (g s p a).2.1 else((g s p a).1,[],(g s p a).2.2)
def gi:Nat->σ->Int->List Int->σ×List Int×Int
 |0,s,_,_=>(s,[],10)
 |f+1,s,page,out=>if(I.tl s page).2.2=0 then
  if(I.tl s page).2.1.lf=true then((I.tl s page).1,out++[page],0)else lN (gi f) (I.tl s page).2.1.vs (I.tl s page).1 (out++[page])else((I.tl s page).1,[],(I.tl s page).2.2)
def pages(s:σ)(root:Int):σ×List Int×Int:=if root=0 then(s,[],0)else I.gi 40 s root []
def foldM(g:σ->Int->ke->σ×ke×Int)(most:Int):List Int->σ->ke->σ×ke×Int
 |[],s,a=>(s,a,0)
 |p::l,s,a=>if(a.length:Int)<most then(if(g s p a).2.2=0 then foldM g most l (g s p a).1 (g s p a).2.1 else((g s p a).1,[],(g s p a).2.2))else(s,a,0)
def eZ(aK:Key)(most:Int):Nat->σ->Int->ke->σ×ke×Int
 |0,s,_,_=>(s,[],10)
 |f+1,s,page,out=>if(I.tl s page).2.2=0 then
  if(I.tl s page).2.1.lf=true then((I.tl s page).1,ou aK most ((I.tl s page).2.1.ks.zip (I.tl s page).2.1.vs) out,0)
  else foldM (eZ aK most f) most ((I.tl s page).2.1.vs.drop (dy (I.tl s page).2.1 aK)) (I.tl s page).1 out else((I.tl s page).1,[],(I.tl s page).2.2)
def scan(s:σ)(root:Int)(aK:Key)(most:Int):σ×ke×Int:=if root=0\/most<1 then(s,[],0)else I.eZ aK most 40 s root []
def jx(g:σ->Int->Key->Option Key->Ck->σ×Ck×Int):Key->List Key->Option Key->List Int->σ->Ck->σ×Ck×Int
 |lo,k::ks,hi,v::vs,s,a=>if(g s v lo (some k) a).2.2=0 then jx g k ks hi vs (g s v lo (some k) a).1 (g s v lo (some k) a).2.1 else g s v lo (some k) a
 |lo,[],hi,v::_,s,a=>g s v lo hi a
 |_,_,_,[],s,a=>(s,a,0)
def eH:Nat->Nat->σ->Int->Key->Option Key->Ck->σ×Ck×Int
 |0,_,s,_,_,_,c=>(s,c,10)
 |f+1,d,s,page,lo,hi,c=>
  if page∈c.seen\/page<1 then(s,c,10)
  else if(I.tl s page).2.2=0 then
   if vf d (I.tl s page).2.1<=(I.tl s page).2.1.ks.length/\rP (I.tl s page).2.1 lo hi=true then
    if(I.tl s page).2.1.lf=true then
     if 0<=c.dep/\c.dep≠d then((I.tl s page).1,dD c page,10)else((I.tl s page).1,⟨c.seen++[page],d⟩,0)
    else jx (eH f (d+1)) lo (I.tl s page).2.1.ks hi (I.tl s page).2.1.vs (I.tl s page).1 (dD c page)
   else((I.tl s page).1,dD c page,10)
  else((I.tl s page).1,dD c page,(I.tl s page).2.2)
def check(s:σ)(root:Int):σ×Int:=if root=0 then(s,0)else((I.eH 40 0 s root [] none ⟨[],-1⟩).1,(I.eH 40 0 s root [] none ⟨[],-1⟩).2.2)
def put(s:σ)(n:Nd):σ×List Int×Key×Int:=if n.ks.length<=4 then((I.sv s n).1,[(I.sv s n).2.1],[],(I.sv s n).2.2)else if(I.sv s (gS n)).2.2=0 then((I.sv (I.sv s (gS n)).1 (lG n)).1,[(I.sv s (gS n)).2.1,(I.sv (I.sv s (gS n)).1 (lG n)).2.1],sy n,(I.sv (I.sv s (gS n)).1 (lG n)).2.2)else((I.sv s (gS n)).1,[],[],(I.sv s (gS n)).2.2)
def sU(st:Step)(u:C8 σ):C8 σ:=if u.e=0 then⟨(I.put u.s (BX st u.pg u.key)).1,u.old++[st.p],(I.put u.s (BX st u.pg u.key)).2.1,(I.put u.s (BX st u.pg u.key)).2.2.1,(I.put u.s (BX st u.pg u.key)).2.2.2⟩else u
def mV(s:σ)(n:Nd)(old:List Int)(key:Key)(v:Int):C8 σ:=⟨(I.put s (ju n key v)).1,old,(I.put s (ju n key v)).2.1,(I.put s (ju n key v)).2.2.1,(I.put s (ju n key v)).2.2.2⟩
def iJ(s:σ)(l:List Int):σ:=l.foldl I.dr s
def gD(root:Int)(was:Int)(had:Bool)(u:C8 σ):pQ σ:=if u.e=0 then
 if u.pg.length=2 then
  if(I.sv u.s ⟨false,[u.key],u.pg⟩).2.2=0 then⟨I.iJ (I.sv u.s ⟨false,[u.key],u.pg⟩).1 u.old,(I.sv u.s ⟨false,[u.key],u.pg⟩).2.1,was,had,0⟩
  else⟨(I.sv u.s ⟨false,[u.key],u.pg⟩).1,root,0,false,(I.sv u.s ⟨false,[u.key],u.pg⟩).2.2⟩
 else⟨I.iJ u.s u.old,u.pg.getD 0 0,was,had,0⟩else⟨u.s,root,0,false,u.e⟩
def Dy(s:σ)(l:List Step)(key:Key)(v:Int):C8 σ:=match l.getLast? with
 |none=>I.mV s uZ [] key v
 |some x=>l.dropLast.foldr I.sU (I.mV s x.n [x.p] key v)
def oP(s:σ)(root:Int)(key:Key)(v:Int):pQ σ:=if lH key v=true then
 if(I.way key 40 s root []).2.2=0 then I.gD root (pI (I.way key 40 s root []).2.1 key).1 (pI (I.way key 40 s root []).2.1 key).2 (I.Dy (I.way key 40 s root []).1 (I.way key 40 s root []).2.1 key v)
 else⟨(I.way key 40 s root []).1,root,0,false,(I.way key 40 s root []).2.2⟩else⟨s,root,0,false,2⟩
end eu
end Go.cC
namespace Go.aT
open Go.Av
open Go.cC (Nd rB nZ eu)
structure Mp where
 n:Nat
 F:List Go.Av.Ext
 R:List Go.Av.Ext
 W:List Go.Av.Ext
structure su(m:Mp):Prop where
 n:m.n<=65536
 F:Ok m.n m.F
 R:Ok m.n m.R
 W:Ok m.n m.W
 fr:∀s,mem m.F s->¬mem m.R s
 fw:∀s,mem m.F s->¬mem m.W s
def Mp.run(m:Mp)(k:Int):Nat:=(m.F.takeWhile fun e=>!decide (k<=(e.2:Int))).length
def Mp.take(m:Mp)(k:Int):Mp×(Int×Int)×Bool:=if 1<=k/\m.run k<m.F.length then
 ({m with F:=fN m.F ((m.F.getD (m.run k) (0,0)).1,k.toNat),R:=gy m.R ((m.F.getD (m.run k) (0,0)).1,k.toNat)},(((m.F.getD (m.run k) (0,0)).1:Int),k),true)else(m,(0,0),false)
def Mp.hold(m:Mp)(es:List (Int×Int)):Mp×Bool:=({m with F:=if eC m.n m.F es=true then(es.map toE).foldl fN m.F else m.F},eC m.n m.F es)
def Mp.An(m:Mp)(es:List (Int×Int)):Mp:={m with W:=if pK m.n m.F m.W es=true then(es.map toE).foldl gy m.W else m.W}
def Mp.commit(m:Mp):Mp:={m with F:=m.W.foldl gy m.F,R:=[],W:=[]}
def Mp.new(n:Nat):Mp:=⟨n,[(0,n)],[],[]⟩
structure Lg where
 kind:Int
 key:List UInt8
 sure:Bool
structure St where
 D:aN
 J:Jr
 jn:Int
 pn:Int
 root:Int
 sl:Mp
 rm:Mp
 ix:List Kn
 ord:Int
 k_:List Lg
 sure:Bool
def St.free(s:St):St:={s with sl:=s.sl.commit,rm:=s.rm.commit,sure:=true,k_:=s.k_.map fun l=>{l with sure:=true}}
def St.commit(s:St)(root count:Int):St×Bool×Int:=({s with J:=(s.J.commit s.D [(0,ey root count)]).1,D:=(s.J.commit s.D [(0,ey root count)]).2.1,root:=if(s.J.commit s.D [(0,ey root count)]).2.2.1=true then root else s.root,sure:=if(s.J.commit s.D [(0,ey root count)]).2.2.1=true then false else s.sure},(s.J.commit s.D [(0,ey root count)]).2.2)
def St.wrote(s:St)(kind e:Int)(key:List UInt8):St:=if e=0 then St.free {s with k_:=s.k_++[⟨kind,key,false⟩]}else{s with k_:=s.k_++[⟨kind,key,false⟩]}
def pG(b:List UInt8):Nd×Int:=if xd (gP (b,false) 1).1 (s9 (gP (gP (b,false) 1).2 1).1 (gP (gP (b,false) 1).2 1).2).1 (Hx (gP (b,false) 1).1 (gP (gP (b,false) 1).2 1).1 (s9 (gP (gP (b,false) 1).2 1).1 (gP (gP (b,false) 1).2 1).2).2).1 (Hx (gP (b,false) 1).1 (gP (gP (b,false) 1).2 1).1 (s9 (gP (gP (b,false) 1).2 1).1 (gP (gP (b,false) 1).2 1).2).2).2=true then(⟨(gP (b,false) 1).1==1,(s9 (gP (gP (b,false) 1).2 1).1 (gP (gP (b,false) 1).2 1).2).1,(Hx (gP (b,false) 1).1 (gP (gP (b,false) 1).2 1).1 (s9 (gP (gP (b,false) 1).2 1).1 (gP (gP (b,false) 1).2 1).2).2).1⟩,0)else(nZ,10)
structure Cs where
 s:St
 saved:List Int
 old:List Int
def Cs.dev(c:Cs)(D:aN):Cs:={c with s:={c.s with D:=D}}
def xB(jn p:Int):Int:=1+jn+p*8
def Cs.ld(c:Cs)(p:Int):Cs×Nd×Int:=if p<1\/c.s.pn<p then(c,nZ,33)else if(fZ c.s.D (xB c.s.jn (p-1))).2.2.2=0 then
 (if(pG (fZ c.s.D (xB c.s.jn (p-1))).2.2.1).2=0 then(c.dev (fZ c.s.D (xB c.s.jn (p-1))).1,pG (fZ c.s.D (xB c.s.jn (p-1))).2.2.1)
 else(c.dev (fZ c.s.D (xB c.s.jn (p-1))).1,nZ,33))else(c.dev (fZ c.s.D (xB c.s.jn (p-1))).1,nZ,(fZ c.s.D (xB c.s.jn (p-1))).2.2.2)
def Cs.sv(c:Cs)(n:Nd):Cs×Int×Int:=if rB n=true then
 (if(c.s.sl.take 1).2.2=true then
  ({c with s:={c.s with sl:=(c.s.sl.take 1).1,D:=(lX c.s.D (xB c.s.jn (c.s.sl.take 1).2.1.1) 1 (iO n.lf n.ks n.vs)).1},saved:=c.saved++[(c.s.sl.take 1).2.1.1]},(c.s.sl.take 1).2.1.1+1,(lX c.s.D (xB c.s.jn (c.s.sl.take 1).2.1.1) 1 (iO n.lf n.ks n.vs)).2)
 else(c,0,30))else(c,0,10)
def Cs.dr(c:Cs)(p:Int):Cs:={c with old:=c.old++[IntKind.i64.wrap (p-1)]}
def bA:eu Cs:=⟨Cs.ld,Cs.sv,Cs.dr⟩
def dH(m:Mp)(l:List Int):Mp:=l.foldl (fun m p=>m.An [(p,1)]) m
end Go.aT
namespace Go.Av
open Go.Proofs Go.aT
def A0(l:List Kn):List PC:=l.flatMap fun k=>[PC.str k.key,.int k.order,.int k.place,.sl (k.body.map kG)]
def bN(l:List Kn):Ob:=⟨159,4,(A0 l).map .p⟩
def GK(l:List Lg):List PC:=l.flatMap fun x=>[PC.int x.kind,.str x.key,.bool x.sure]
def cz(l:List Lg):Ob:=⟨198,3,(GK l).map .p⟩
def aG(b u:Nat)(D:aN):Ob:=⟨170,6,[.p (.int D.n),.p (.sl (D.bad.map PC.int)),.p (.int D.left),.view (b+1) 0 D.kept.length 64 none,.view (b+2) 0 D.now.length 64 none,.own u (D.q.map J4)]⟩
def bR(b u:Nat)(s:St):Ob:=⟨151,11,[.obj b 0,.p (.int s.jn),.p (.int s.pn),.obj (b+3) 0,.p (.int s.root),.obj (b+4) 0,.obj (b+5) 0,.view (u+8) 0 s.ix.length 4 none,.p (.int s.ord),.view (u+9) 0 s.k_.length 3 none,.p (.bool s.sure)]⟩
def cM(u:Nat)(m:Mp):Ob:=iQ m.n u (u+1) (u+2) m.F m.R m.W
def bO(b u:Nat)(s:St):List (Nat×Ob):=[(b,aG b u s.D),(b+1,aj s.D.kept),(b+2,aj s.D.now),(b+3,fy b (u+1) s.J),(b+4,cM (u+2) s.sl),(b+5,cM (u+5) s.rm),(b+6,bR b u s),(u+2,cg s.sl.F),(u+3,cg s.sl.R),(u+4,cg s.sl.W),(u+5,cg s.rm.F),(u+6,cg s.rm.R),(u+7,cg s.rm.W),(u+8,bN s.ix),(u+9,cz s.k_)]
@[reducible]def fh(u:Nat):List (Nat×TypeId×Nat):=[(u,174,65),(u+1,364,2)]
def AE(b u:Nat)(c:Cs):Ob:=⟨278,3,[.obj (b+6) 0,.own (u+10) (c.saved.map PC.int),.own (u+11) (c.old.map PC.int)]⟩
def sS(b u:Nat)(c:Cs):List (Nat×Ob):=(b+7,AE b u c)::bO b u c.s
@[reducible]def kY(u:Nat):List (Nat×TypeId×Nat):=[(u,174,65),(u+1,364,2),(u+10,3,1),(u+11,3,1)]
theorem S9(b u c v:Nat)(s:St)(ρ:Nat->Nat)(h:∀i,i<7->ρ (b+i)=c+i)(h':∀j,j<10->ρ (u+j)=v+j):eI ρ (bO b u s)=bO c v s:=by
 have e0:ρ b=c:=h 0 (by omega);have e1:=h 1 (by omega);have e2:=h 2 (by omega);have e3:=h 3 (by omega);have e4:=h 4 (by omega);have e5:=h 5 (by omega);have e6:=h 6 (by omega);have f0:ρ u=v:=h' 0 (by omega);have f1:=h' 1 (by omega);have f2:=h' 2 (by omega);have f3:=h' 3 (by omega);have f4:=h' 4 (by omega);have f5:=h' 5 (by omega);have f6:=h' 6 (by omega);have f7:=h' 7 (by omega);have f8:=h' 8 (by omega);have f9:=h' 9 (by omega);simp[bO,eI,aG,aj,fy,cM,bR,bN,cz,e0,e1,e2,e3,e4,e5,e6,f0,f1,f2,f3,f4,f5,f6,f7,f8,f9,Nat.add_assoc]
theorem S_(b u m:Nat)(s:St)(h:b+7<=m)(h':u+10<=m):∀p∈bO b u s,AV.fD.eM m p.2.xs=true:=by
 intro p hp;simp[bO]at hp;rcases hp with rfl|rfl|rfl|rfl|rfl|rfl|rfl|rfl|rfl|rfl|rfl|rfl|rfl|rfl|rfl<;>simp[aG,aj,cM,bR,bN,cz]<;>omega
theorem Ta(b u:Nat)(s:St):∀p∈bO b u s,(b<=p.1/\p.1<b+7)\/(u<=p.1/\p.1<u+10):=by
 intro p hp;simp[bO]at hp;rcases hp with rfl|rfl|rfl|rfl|rfl|rfl|rfl|rfl|rfl|rfl|rfl|rfl|rfl|rfl|rfl<;>simp<;>omega
theorem Tc(b u c v:Nat)(s:Cs)(ρ:Nat->Nat)(h:∀i,i<8->ρ (b+i)=c+i)(h':∀j,j<12->ρ (u+j)=v+j):eI ρ (sS b u s)=sS c v s:=by
 have e6:=h 6 (by omega);have e7:=h 7 (by omega);have f1:=h' 10 (by omega);have f2:=h' 11 (by omega);rw[sS,eI,S9 b u c v s.s ρ (fun i hi=>h i (by omega)) (fun i hi=>h' i (by omega))];simp[sS,AE,e6,e7,f1,f2]
theorem X8(b u:Nat)(c:Cs)(h:b+8<=u\/u+12<=b):((sS b u c).map (·.1)).Nodup:=by
 simp[sS,bO];omega
def kg:GN 8 12 Cs:=⟨sS,fun b u s p hp=>by
 rcases List.mem_cons.1 hp with rfl|hp
 ·left;simp
 ·have:=Ta b u s.s p hp;omega,X8,Tc,fun b u s m p h h' hp=>by
 rcases List.mem_cons.1 hp with rfl|hp
 ·simp[AE];omega
 ·exact S_ b u m s.s (by omega) (by omega) p hp⟩
theorem Fy{P:Program}{tb:Tb}{kt:AV->Tb->Prop}{gf:FuncId}{ys l:List AV}{ts ts':Tb}{r:AV}(rn:List Nat)(h:aE P gf ys ts r ts')(hk:kt (r.ren (gN rn tb.nx)) (tb.merge (ts.ren (gN rn tb.nx)) (ts'.ren (gN rn tb.nx))))(hs:rn.length=ts.nx/\ts.nx<=ts'.nx/\rn.Nodup/\∀j∈rn,j<tb.nx:=by simp)(hl:toAll l (AV.ren.dm (gN rn tb.nx) ys):=by simp)(hb:ay tb.bx (eI (gN rn tb.nx) ts.bx):=by simp[ay,bO,aG,aj,cM,bR,bN,cz])(hr:ay tb.rw (kC (gN rn tb.nx) ts.rw):=by simp[ay]):nL P gf [] l tb kt:=bq rn h hs hl hb hr hk
end Go.Av
namespace Go.aT
open Go.Av
theorem su.commit{m:Mp}(h:su m):su m.commit:=by
 have hp:=tK h.F (es:=m.W) (fun e he=>⟨h.W.nr.pos e he,h.W.top e he,fun s hs hm=>h.fw s hm ⟨e,he,hs⟩⟩) (UL h.W.nr) m.W.length (Nat.le_refl _);rw[List.take_length]at hp;exact⟨h.n,hp.1,qp,qp,fun s _ hm=>by simp[Mp.commit]at hm,fun s _ hm=>by simp[Mp.commit]at hm⟩
end Go.aT
namespace Go.Av
open Go.Proofs Go.Proofs.Tryz Go.aT
theorem ux(x:Lg)(L:List Lg):GK (x::L)=PC.int x.kind::PC.str x.key::PC.bool x.sure::GK L:=rfl
@[simp]theorem ag1(L:List Lg):(GK L).length=L.length*3:=by
 induction L with
 |nil=>rfl
 |cons x L ih=>rw[ux];simp[ih];omega
theorem Iy(c:Bool):∀{L:List Lg} {k:Nat} (h:k<L.length),(GK L).take (k*3+2)++PC.bool c::(GK L).drop (k*3+2+1)=GK (L.set k {L[k]with sure:=c})
 |[],k,h=>by simp at h
 |x::L,0,_=>by simp[ux]
 |x::L,k+1,h=>by
  have ih:=Iy c (L:=L) (k:=k) (by simpa using h);rw[List.set_cons_succ,List.getElem_cons_succ,ux,ux,show(k+1)*3+2=k*3+2+1+1+1 by omega];simp only[List.take_succ_cons,List.drop_succ_cons,List.cons_append,ih]
def mo:List Lg->Nat->List Lg
 |x::L,k+1=>{x with sure:=true}::mo L k
 |L,_=>L
@[simp]theorem X4(L:List Lg):mo L 0=L:=by cases L<;>rfl
@[simp]theorem Ky:∀(L:List Lg) (k:Nat),(mo L k).length=L.length
 |[],_=>by simp[mo]
 |x::L,0=>by simp
 |x::L,k+1=>by simp[mo,Ky L k]
theorem zl:∀{L:List Lg} {k:Nat} (h:k<L.length),mo L (k+1)=(mo L k).set k {(mo L k)[k]'(by simpa using h)with sure:=true}
 |[],k,h=>by simp at h
 |x::L,0,_=>by simp[mo]
 |x::L,k+1,h=>by
  have ih:=zl (L:=L) (k:=k) (by simpa using h);show{x with sure:=true}::mo L (k+1)=({x with sure:=true}::mo L k).set (k+1) {({x with sure:=true}::mo L k)[k+1]'(by simpa using h)with sure:=true}
  rw[List.set_cons_succ,ih];rfl
theorem Bj:∀(L:List Lg),mo L L.length=L.map fun l=>{l with sure:=true}
 |[]=>rfl
 |x::L=>by simp[mo,Bj L]
theorem S5(s:St)(hs:su s.sl)(hr:su s.rm)(hl:s.k_.length<=1000000000):aE prog 101 [.obj 6 0] ⟨bO 0 7 s,fh 7,17⟩ (.agg true []) ⟨bO 0 17 s.free,fh 17,27⟩:=by
 have h1:=tU 4 9 10 11 17 s.sl.n (by constructor<;>omega) hs.n s.sl.F s.sl.R s.sl.W hs.F hs.W hs.fw;have h2:=tU 5 12 13 14 20 s.rm.n (by constructor<;>omega) hr.n s.rm.F s.rm.R s.rm.W hr.F hr.W hr.fw;refine ah (rs:=[]) [] [] [] func101 rfl ?_;simp[bO,aG,aj,cM,bR,bN,cz];refine aA h1 (by simp) (by simp[ay]) (by simp[ay]) rfl ?_;simp;refine aA h2 (by simp) (by simp[ay]) (by simp[ay]) rfl ?_;simp;obtain⟨sl',lZ⟩:∃m,s.sl.commit=m:=⟨_,rfl⟩;obtain⟨rm',C9⟩:∃m,s.rm.commit=m:=⟨_,rfl⟩;refine aL (fun k:Nat=>k<=s.k_.length) (fun k=>[(0,.obj 6 0),(20,.p (.int s.k_.length)),(21,.p (.int k))]) (fun k=>⟨[(0,aG 0 7 s.D),(1,aj s.D.kept),(2,aj s.D.now),(3,fy 0 8 s.J),(4,cM 17 s.sl.commit),(5,cM 20 s.rm.commit),(6,bR 0 7 {s with sure:=true}),(17,cg s.sl.commit.F),(18,cg []),(19,cg []),(20,cg s.rm.commit.F),(21,cg []),(22,cg []),(15,bN s.ix),(16,cz (mo s.k_ k))],fh 7,23⟩) (fun k=>s.k_.length-k) 0 (by simp) _ (AS.le_refl _ _) (ak (by simp[aG,aj,cM,bR,bN,cz,Mp.commit])) ?_;intro k hk;by_cases ck:k<s.k_.length
 ·have wk:=jq k;have gT:=Iy true (L:=mo s.k_ k) (k:=k) (by simpa using ck);rw[<-zl ck]at gT;have U4:=congrArg (List.map AV.p) gT;rw[List.map_append,List.map_take,List.map_cons,List.map_drop]at U4;simp[ck,wk,aG,aj,cM,bR,bN,cz];exact⟨by omega,k+1,by omega,by omega,ak (by simp[U4])⟩
 ·obtain rfl:k=s.k_.length:=by omega
  simp[-az,aG,aj,cM,bR,bN,cz,results101];exact⟨[(17,7),(18,8),(19,17),(20,18),(21,19),(22,20),(23,21),(24,22),(25,15),(26,16)],by simp[St.free,Mp.commit,Bj]⟩
end Go.Av
namespace Go.aT
open Go.Av
structure KOk(k:Kn):Prop where
 key:k.key.length<=1000
 order:0<=k.order/\k.order<=1152921504606846976
 place:0<=k.place/\k.place<=1000000000
 bl:k.body.length<=8
 bo:∀e∈k.body,0<=e.1/\e.1<=65536/\1<=e.2/\e.2<=65536
structure JB(t:Nat)(jn:Int)(J:Jr):Prop where
 ok:C7 J
 ho:∀p∈J.bY,-9223372036854775808<=p.1/\p.1<=9223372036854775807
 zX:J.bY.length<=t
 hat:J.at'<=1000000+t/\J.base<=1000000+t
 aK:J.aK=1/\J.n=jn
structure jU(t:Nat)(s:St):Prop where
 D:dO (t*t) s.D
 J:JB t s.jn s.J
 jn:5<=s.jn/\s.jn<=4096
 pn:30<=s.pn/\s.pn<=4096
 sz:cG s.jn s.pn+16<=s.D.kept.length
 sl:su s.sl
 rm:su s.rm
 UC:(s.sl.n:Int)=s.pn
 Jf:(s.rm.n:Int)=s.D.kept.length-cG s.jn s.pn
 k_:s.k_.length<=t
 ixl:s.ix.length<=1000000
 ix:∀k∈s.ix,KOk k
 srt:s.ix.Pairwise fun a b=>Op.bytesLess a.key b.key=true
 root:-9223372036854775808<=s.root/\s.root<=9223372036854775807
 ord:0<=s.ord/\s.ord<=1152921504606846976
theorem sq8(t:Nat):(t+8)*(t+8)=t*t+16*t+64:=by rw[Nat.add_mul,Nat.mul_add,Nat.mul_add];omega
theorem OW{a b:Nat}(h:a<=b):a*a<=b*b:=Nat.mul_le_mul h h
theorem R_{t:Nat}(h:t<=30000):t*t<=900000000:=Nat.le_trans (OW h) (by decide)
theorem cS(D:aN):D.flush.1.kept.length=D.kept.length/\D.flush.1.now=D.now:=by
 unfold aN.flush;split
 ·unfold aN.next;split<;>simp[aN.settle,iw]
 ·unfold aN.next;split<;>simp
theorem dW(D:aN)(a:Int)(l:List dh):(D.write a l).1.kept=D.kept:=by
 unfold aN.write;split
 ·split
  ·rw[(D5 _ _ _).1];unfold aN.next;split<;>rfl
  ·unfold aN.next;split<;>rfl
 ·rfl
theorem mO:∀(l:List xe) (D:aN),(gU l D).1.kept=D.kept
 |[],_=>rfl
 |p::l,D=>by
  unfold gU;split
  ·rw[mO l,dW]
  ·rw[dW]
theorem CU{b:Nat}{D:aN}(h:dO b D):D.flush.2=0->dO 0 D.flush.1:=by
 unfold aN.flush;split
 ·intro _;exact h.next.settle
 ·rename_i hn;intro h0;exact absurd h0 hn
theorem EL{b:Nat}{D:aN}(h:dO b D)(J:Jr):dO (b+J.bY.length+2) (J.settle D).2.1:=by
 have f1:=h.flush;have key:dO (b+J.bY.length+2) (aI (jE J) D).1:=by
  unfold jE;simp only[aI];by_cases c1:D.flush.2=0
  ·rw[if_pos c1];have q1:=CU h c1;by_cases c2:(gU J.bY D.flush.1).2=0
   ·rw[if_pos c2];have q2:=q1.home J.bY;have f3:=q2.flush;by_cases c3:(gU J.bY D.flush.1).1.flush.2=0
    ·rw[if_pos c3];have q3:=CU q2 c3;by_cases c4:(J.tell (gU J.bY D.flush.1).1.flush.1).2=0
     ·rw[if_pos c4];have q4:=q3.write (J.aK+J.mZ.number%2) [bX J.mZ];have f5:=q4.flush;by_cases c5:(J.tell (gU J.bY D.flush.1).1.flush.1).1.flush.2=0
      ·rw[if_pos c5];exact f5.up (by first|(simp;done)|(simp;omega))
      ·rw[if_neg c5];exact f5.up (by first|(simp;done)|(simp;omega))
     ·rw[if_neg c4];exact(q3.write _ _).up (by first|(simp;done)|(simp;omega))
    ·rw[if_neg c3];exact f3.up (by omega)
   ·rw[if_neg c2];exact(q1.home _).up (by omega)
  ·rw[if_neg c1];exact f1.up (by omega)
 unfold Jr.settle;split
 ·exact h.up (by omega)
 ·split<;>exact key
theorem wM(J:Jr)(D:aN):(J.settle D).2.1.kept.length=D.kept.length:=by
 have key:(aI (jE J) D).1.kept.length=D.kept.length:=by
  unfold jE;simp only[aI];split
  ·split
   ·split
    ·split
     ·split
      ·rw[(cS _).1,Jr.tell,dW,(cS _).1,mO,(cS _).1]
      ·rw[(cS _).1,Jr.tell,dW,(cS _).1,mO,(cS _).1]
     ·rw[Jr.tell,dW,(cS _).1,mO,(cS _).1]
    ·rw[(cS _).1,mO,(cS _).1]
   ·rw[mO,(cS _).1]
  ·rw[(cS _).1]
 unfold Jr.settle;split
 ·rfl
 ·split<;>exact key
theorem JB.up{t t':Nat}{jn:Int}{J:Jr}(h:JB t jn J)(ht:t<=t'):JB t' jn J:=⟨h.ok,h.ho,Nat.le_trans h.zX ht,by have:=h.hat;omega,h.aK⟩
theorem JB.settle{t:Nat}{jn:Int}{J:Jr}(h:JB t jn J)(D:aN):JB t jn (J.settle D).1:=by
 obtain⟨k1,k2,k3,k4⟩:=Go.Av.o3 J D;have hn:(J.settle D).1.n=J.n:=by unfold Jr.settle;split;rfl;split<;>rfl
 have hh:=h.hat;refine⟨A_ h.ok D,fun p hp=>h.ho p ?_,Nat.le_trans k4 h.zX,⟨by rw[k3];omega,?_⟩,⟨k2.trans h.aK.1,hn.trans h.aK.2⟩⟩
 ·unfold Jr.settle at hp;split at hp
  ·exact hp
  ·split at hp
   ·simp[Jr.settled]at hp
   ·exact hp
 ·unfold Jr.settle;split
  ·simp only;omega
  ·split
   ·simp only[Jr.settled];omega
   ·simp only;omega
theorem jU.up{t t':Nat}{s:St}(h:jU t s)(ht:t<=t'):jU t' s:={h with D:=h.D.up (OW ht),J:=h.J.up ht,k_:=Nat.le_trans h.k_ ht}
theorem jU.settled{t:Nat}{s:St}(h:jU t s):jU (t+8) {s with J:=(s.J.settle s.D).1,D:=(s.J.settle s.D).2.1}:=by
 have hk:=wM s.J s.D;exact{h with D:=(EL h.D s.J).up (by have:=h.J.zX;rw[sq8];omega),J:=(h.J.settle s.D).up (by omega),sz:=by simp only[hk];exact h.sz,Jf:=by simp only[hk];exact h.Jf,k_:=Nat.le_trans h.k_ (by omega)}
theorem jU.aev{t:Nat}{s:St}(h:jU t s):jU t s.free:={h with sl:=h.sl.commit,rm:=h.rm.commit,k_:=by simp[St.free];exact h.k_}
end Go.aT
namespace Go.Av
open Go.Proofs Go.aT
end Go.Av
namespace Go.aT
open Go.Av
theorem Qk(aK:Int)(L:List dh)(a:Int)(D:aN):(aI (gv aK L a) D).1.kept.length=D.kept.length:=by
 unfold gv;simp only[aI];split
 ·split
  ·split
   ·rw[dW,(cS _).1,dW]
   ·rw[dW,(cS _).1,dW]
  ·rw[(cS _).1,dW]
 ·rw[dW]
theorem agS{b:Nat}{D:aN}(h:dO b D)(aK:Int)(L:List dh)(a:Int):dO (b+L.length+2) (aI (gv aK L a) D).1:=by
 unfold gv;simp only[aI];have w1:=h.write (aK+a) (L.take (L.length-1)++[Go.Av.cW []]);have l1:(L.take (L.length-1)++[Go.Av.cW []]).length<=L.length+1:=by first|(simp;done)|(simp;omega)
 split
 ·have f1:=w1.flush;split
  ·rename_i c;have q:=(CU w1 c).write (aK+(a+(L.length-1:Nat))) [L.getD (L.length-1) []];split
   ·exact q.up (by first|(simp;done)|(simp;omega))
   ·exact q.up (by first|(simp;done)|(simp;omega))
  ·exact f1.up (by omega)
 ·exact w1.up (by omega)
theorem I7{b:Nat}{D:aN}(h:dO b D)(J:Jr)(aF:List xe)(a:Int):dO (b+aF.length+4) (J.Cv D aF a).2.1/\(J.Cv D aF a).2.1.kept.length=D.kept.length/\((J.Cv D aF a).1=J\/(J.Cv D aF a).1=J.done aF a):=by
 have q:=agS h J.aK (jF J.next aF) a;have hk:=Qk J.aK (jF J.next aF) a D;rw[ud]at q;unfold Jr.Cv;split
 ·exact⟨q.flush.up (by omega),by rw[(cS _).1,hk],.inr rfl⟩
 ·exact⟨q.up (by omega),hk,.inl rfl⟩
theorem I8(J:Jr)(size c:Int)(h:J.at'<=c)(h2:2<=c):(mg J size).1<=c:=by
 unfold mg;split
 ·exact h
 ·split
  ·exact h
  ·split<;>exact h2
theorem JB.done{t:Nat}{jn:Int}{J:Jr}(h:JB t jn J)(ht:t<=30000)(b:dh)(a:Int)(ha:0<=a/\a<=1000000+t):JB (t+8) jn (J.done [(0,b)] a):=by
 have hh:=h.hat;have hl:=h.zX;have hb:=h.ok.base;refine⟨⟨h.ok.aK,h.ok.n,by simp[Jr.done];omega,by simp[Jr.done];omega,?_⟩,fun p hp=>?_,by simp[Jr.done];omega,⟨by simp[Jr.done];omega,?_⟩,h.aK⟩
 ·simp only[Jr.done];split<;>omega
 ·simp only[Jr.done,iR,List.mem_singleton]at hp;rcases hp with hp|rfl
  ·exact h.ho p hp
  ·simp
 ·simp only[Jr.done];split<;>omega
theorem Lt{t:Nat}{jn:Int}{J:Jr}{D:aN}(hD:dO (t*t) D)(h:JB t jn J)(ht:t<=30000)(b:dh):dO ((t+8)*(t+8)) (J.commit D [(0,b)]).2.1/\(J.commit D [(0,b)]).2.1.kept.length=D.kept.length/\JB (t+8) jn (J.commit D [(0,b)]).1:=by
 have hat:=h.hat;have zX:=h.zX;have hJ:=h.ok.at';have e8:=sq8 t;have hq:=EL hD J;have hk:=wM J D;obtain⟨k1,k2,k3,k4⟩:=Go.Av.o3 J D;have hS:=h.settle D;unfold Jr.commit;split
 ·split
  ·obtain⟨c1,c2,c3⟩:=I7 hD J [(0,b)] (mg J (([(0,b)]:List xe).length+2)).1;refine⟨c1.up (by simp;omega),c2,?_⟩;rcases c3 with c3|c3
   ·rw[c3];exact h.up (by omega)
   ·rw[c3];exact h.done ht b _ ⟨(Cy _ (by omega)).1,I8 _ _ _ (by omega) (by omega)⟩
  ·split
   ·obtain⟨c1,c2,c3⟩:=I7 hq (J.settle D).1 [(0,b)] (mg (J.settle D).1 (([(0,b)]:List xe).length+2)).1;refine⟨c1.up (by simp;omega),c2.trans hk,?_⟩;rcases c3 with c3|c3
    ·rw[c3];exact hS.up (by omega)
    ·rw[c3];exact hS.done ht b _ ⟨(Cy _ (by rw[k3];omega)).1,I8 _ _ _ (by rw[k3];omega) (by omega)⟩
   ·exact⟨hq.up (by omega),hk,hS.up (by omega)⟩
 ·exact⟨hD.up (by omega),rfl,h.up (by omega)⟩
theorem jU.commit{t:Nat}{s:St}(h:jU t s)(ht:t<=30000)(root count:Int)(hr:-9223372036854775808<=root/\root<=9223372036854775807):jU (t+8) (s.commit root count).1:=by
 obtain⟨h1,h2,h3⟩:=Lt h.D h.J ht (ey root count);have hroot:=h.root;exact{h with D:=h1,J:=h3,sz:=by simp only[St.commit,h2];exact h.sz,Jf:=by simp only[St.commit,h2];exact h.Jf,k_:=Nat.le_trans h.k_ (by omega),root:=by simp only[St.commit];split<;>assumption}
theorem jU.wrote{t:Nat}{s:St}(h:jU t s)(kind e:Int)(key:List UInt8):jU (t+8) (s.wrote kind e key):=by
 have h':jU (t+8) {s with k_:=s.k_++[⟨kind,key,false⟩]}:={h.up (Nat.le_add_right t 8)with k_:=by have:=h.k_;simp;omega};unfold St.wrote;split
 ·exact h'.aev
 ·exact h'
end Go.aT
namespace Go.Av
open Go.Proofs Go.Proofs.Tryz Go.aT
theorem J2(t:Nat)(s:St)(h:jU t s)(ht:t<=30000)(root count:Int):aE prog 234 [.obj 6 0,.p (.int root),.p (.int count)] ⟨bO 0 7 s,fh 7,17⟩ (.agg true [.p (.bool (s.commit root count).2.1),.p (.int (s.commit root count).2.2)]) ⟨bO 0 17 (s.commit root count).1,fh 17,27⟩:=by
 have hc:=Ki s.D (t*t) h.D s.J h.J.ok (by have:=R_ ht;omega) (by have:=h.J.hat;omega) h.J.ho (by have:=h.J.zX;omega) [(0,ey root count)] (by simp);have hs:=y9 root count;unfold St.commit;obtain⟨R,hR⟩:∃R,s.J.commit s.D [(0,ey root count)]=R:=⟨_,rfl⟩;obtain⟨J',D',b,e⟩:=R;rw[hR]at hc⊢;simp only at hc⊢;refine ah (rs:=[_,_]) [] [(1,[(3,.r 1),(10,.w [1])])] [(1,6)] func234 rfl ?_;simp[bO,aG,aj,cM,bR,bN,cz];refine bJ hs ?_;simp;refine qU [0,1,2,7,3,8] hc ?_;cases b with
 |true=>
  simp[-az,aj,results234];exact⟨[(19,9),(20,10),(21,11),(22,12),(23,13),(24,14),(25,15),(26,16)],by simp⟩
 |false=>
  simp[-az,aj,results234];exact⟨[(19,9),(20,10),(21,11),(22,12),(23,13),(24,14),(25,15),(26,16)],by simp⟩
theorem Md(t:Nat)(s:St)(h:jU t s)(ht:t<=30000)(kind e:Int)(key:List UInt8)(hk:key.length<=1000000):aE prog 153 [.obj 6 0,.p (.int kind),.p (.int e),.p (.str key)] ⟨bO 0 7 s,fh 7,17⟩ (.agg true []) ⟨bO 0 17 (s.wrote kind e key),fh 17,27⟩:=by
 have hl:=h.k_;have hf:=S5 {s with k_:=s.k_++[⟨kind,key,false⟩]} h.sl h.rm (by simp;omega);obtain⟨Z,hZ⟩:∃Z,s.wrote kind e key=Z:=⟨_,rfl⟩;rw[hZ];refine ah (rs:=[]) [] [] [] func153 rfl ?_;have oK:List.take (s.k_.length*3) (List.map AV.p (GK s.k_))=List.map AV.p (GK s.k_):=fY (by simp);simp[bO,aG,aj,cM,bR,bN,cz,oK];refine⟨by omega,by omega,?_⟩;by_cases c:e=0
 ·subst c;simp;refine bq [0,1,2,3,4,5,6,7,8,9,10,11,12,13,14,15,17] hf (by simp) (by simp) (by simp[ay,bO,aG,aj,cM,bR,bN,cz,GK]) (by simp[ay]) ?_;rw[St.wrote,if_pos rfl]at hZ;rw[<-hZ];simp[-az,bO,aG,aj,cM,bR,bN,cz,results153];exact⟨[(17,18),(18,19),(19,20),(20,21),(21,22),(22,23),(23,24),(24,25),(25,26),(26,27)],by simp⟩
 ·rw[St.wrote,if_neg c]at hZ;rw[<-hZ];have c':(e==0)=false:=by simpa using c
  simp[-az,c',results153];exact⟨[(17,7),(18,8),(19,9),(20,10),(21,11),(22,12),(23,13),(24,14),(25,15),(26,17)],by simp[GK]⟩
end Go.Av
namespace Go.aT
open Go.Av
def UF:Kn:=⟨[],0,0,[]⟩
def atC(ix:List Kn)(key:List UInt8)(i:Nat):Int:=Ns (ix.getD i UF).key key
def Fx(ix:List Kn)(key:List UInt8):Nat:=Ci (atC ix key) ix.length 0 ix.length
def Uo(ix:List Kn)(key:List UInt8):Bool:=decide (Fx ix key<ix.length)&&(atC ix key (Fx ix key)==0)
def tD:Nat->Nat->Nat->Nat->Nat
 |0,_,_,d=>d
 |f+1,n,k,d=>if k<n+1 then tD f n (k*2) (d+1)else d
def depth(n:Nat):Nat:=tD (n+1) n 1 1
theorem AZ(n:Nat):∀(a b k d:Nat),1<=k->n+1<=k+a->n+1<=k+b->tD a n k d=tD b n k d
 |0,0,_,_,_,_,_=>rfl
 |0,b+1,k,d,h,h1,h2=>by unfold tD;rw[if_neg (by omega)]
 |a+1,0,k,d,h,h1,h2=>by unfold tD;rw[if_neg (by omega)]
 |a+1,b+1,k,d,h,h1,h2=>by
  unfold tD;split
  ·exact AZ n a b _ _ (by omega) (by omega) (by omega)
  ·rfl
end Go.aT
namespace Go.Av
open Go.Proofs Go.Proofs.Tryz Go.aT
theorem tN(x:Kn)(L:List Kn):A0 (x::L)=PC.str x.key::PC.int x.order::PC.int x.place::PC.sl (x.body.map kG)::A0 L:=rfl
theorem HW(L M:List Kn):A0 (L++M)=A0 L++A0 M:=by simp[A0]
@[simp]theorem agZ(L:List Kn):(A0 L).length=L.length*4:=by
 induction L with
 |nil=>rfl
 |cons x L ih=>rw[tN];simp[ih];omega
theorem RQ(l:List Kn):(l.map RS).flatMap aU=(A0 l).map AV.p:=by
 induction l with
 |nil=>rfl
 |cons x l ih=>rw[tN,List.map_cons,List.flatMap_cons,ih];rfl
theorem WK(bx:List (Nat×Ob))(k id:Nat)(l:List Kn)(h:lk id bx=some (bN l)):cQ bx (k+1) (.view id 0 l.length 4 none) (.sl (l.map RS)):=by
 refine⟨_,h,by omega,by simp,by simp[bN],?_,?_,?_⟩
 ·rw[RQ];simp only[Nat.zero_mul,List.drop_zero,bN];exact fY (by simp)
 ·intro y hy;obtain⟨x,_,rfl⟩:=List.mem_map.1 hy;rfl
 ·intro y hy;obtain⟨x,_,rfl⟩:=List.mem_map.1 hy;rfl
theorem acP(s:St)(hl:s.ix.length<=1000000)(key:List UInt8):aE prog 61 [.obj 6 0,.p (.str key)] ⟨[(6,bR 0 7 s),(15,bN s.ix)],[],17⟩ (.agg true [.p (.int (Fx s.ix key)),.p (.bool (Uo s.ix key))]) ⟨[(6,bR 0 7 s),(15,bN s.ix)],[],17⟩:=by
 have hb:aq prog 154 [.sl (s.ix.map RS),.str key,.fn (.func 155) []] (.tp [.int (Fx s.ix key),.bool (Uo s.ix key)]):=Gb 155 key (fun k=>Ns k.key key) s.ix hl (fun x _=>adu x key) (atC s.ix key) (fun i h=>by simp[atC,List.getD,h]);refine ah (rs:=[_,_]) [] [] [] func61 rfl ?_;simp[bR];refine A2 1 hb ⟨WK _ 0 15 s.ix (by simp[lk]),⟨_,rfl,.inl rfl⟩,⟨_,rfl,.inl rfl⟩,trivial⟩ rfl ?_;simp[-az,results61];exact⟨[],by simp[bN]⟩
theorem Rp(s:St)(hl:s.ix.length<=1000000):aE prog 88 [.obj 6 0] ⟨[(6,bR 0 7 s),(15,bN s.ix)],[],17⟩ (.p (.int (depth s.ix.length))) ⟨[(6,bR 0 7 s),(15,bN s.ix)],[],17⟩:=by
 refine ah (rs:=[_]) [] [] [] func88 rfl ?_;simp[bR];obtain⟨n,hn⟩:∃n,s.ix.length=n:=⟨_,rfl⟩;rw[hn]at hl;refine aL (fun kd:Nat×Nat=>1<=kd.1/\kd.1<=4000000/\kd.2<=kd.1/\tD (n+1) n kd.1 kd.2=depth n) (fun kd=>[(0,.obj 6 0),(4,.p (.int kd.1)),(3,.p (.int kd.2))]) (fun _=>⟨[(6,bR 0 7 s),(15,bN s.ix)],[],17⟩) (fun kd=>n+1-kd.1) (1,1) (by simp[depth]) _ (AS.le_refl _ _) (ak (by simp[bR,bN])) ?_;rintro⟨k,d⟩ ⟨h1,h2,h3,h4⟩;simp only at h1 h2 h3 h4;have w1:=jq n;by_cases c:k<n+1
 ·have w2:IntKind.i64.wrap ((k:Int)*2)=((k*2:Nat):Int):=by rw[aD];omega
  have w3:=jq d;have c':(k:Int)<(n:Int)+1:=by omega
  have h5:tD (n+1) n (k*2) (d+1)=depth n:=by
   rw[<-h4]
   conv=>rhs;unfold tD
   rw[if_pos c];exact AZ n _ _ _ _ (by omega) (by omega) (by omega)
  simp[bR,hn,w1,w2,w3,c'];exact⟨k*2,d+1,⟨by omega,by omega,by omega,h5⟩,by omega,ak (by simp[bN])⟩
 ·have c':¬((k:Int)<(n:Int)+1):=by omega
  have h5:d=depth n:=by
   rw[<-h4];unfold tD;rw[if_neg c]
  simp[-az,bR,hn,w1,c',results88];exact⟨[],by simp[bN,h5]⟩
end Go.Av
namespace Go.aT
open Go.Av
def rM:cZ:=⟨[],[],[],⟨[],[],0,[],0⟩,[],0,0,0,0,0,[]⟩
def uP(b:List UInt8):Int:=cq (b.take 2)+2
def BO(b:List UInt8):List UInt8:=(dY (b.take (uP b+4).toNat)).1.drop 2
def QU(un:List UInt8->cZ×Int)(b:List UInt8):cZ×Int:=if(b.length:Int)<uP b+4 then(rM,33)else if(dY (b.take (uP b+4).toNat)).2=0 then(if(un (BO b)).2=0 then un (BO b)else(rM,33))else(rM,33)
def St.dev(s:St)(D:aN):St:={s with D:=D}
def St.read(un:List UInt8->cZ×Int)(s:St)(x:Int×Int):St×cZ×Int:=(s.dev (s.D.read (cG s.jn s.pn+x.1) x.2).1,if(s.D.read (cG s.jn s.pn+x.1) x.2).2.2=2 then(rM,33)else if(s.D.read (cG s.jn s.pn+x.1) x.2).2.2=0 then QU un (s.D.read (cG s.jn s.pn+x.1) x.2).2.1.flatten else(rM,(s.D.read (cG s.jn s.pn+x.1) x.2).2.2))
def Mn(un:List UInt8->cZ×Int)(o:List UInt8):Prop:=aq Go.Proofs.Tryz.prog 159 [cy o] (.tp [dI (un o).1,.int (un o).2])
theorem Zk(b:List UInt8)(h:b.length<=2):0<=cq b/\cq b<65536:=by
 have h1:=BN b.length b rfl;have h2:256^b.length<=256^2:=Nat.pow_le_pow_right (by omega) h;have h3:(256:Nat)^2=65536:=rfl;unfold cq;rw[aD];omega
theorem AA{L:List dh}(h:∀s∈L,s.length=64):L.flatten.length=L.length*64:=by
 induction L with
 |nil=>rfl
 |cons a L ih=>
  rw[List.flatten_cons,dU,ih (fun s hs=>h s (by simp[hs])),h a (by simp),List.length_cons];omega
theorem TY{b:Nat}{D:aN}(h:dO b D)(a n:Int):(D.read a n).2.1.length<=65536/\∀s∈(D.read a n).2.1,s.length=64:=by
 have h1:=h.len;have h2:=h.top;unfold aN.read;split
 ·split
  ·exact⟨by simp;omega,fun s hs=>h.now s (List.mem_of_mem_drop (jH hs))⟩
  ·simp
 ·simp
theorem KV(b:List UInt8)(h:(dY b).2=0):(dY b).1.length=b.length-4:=by
 unfold dY at h⊢;split
 ·rename_i c;rw[if_pos c]at h;simp at h
 ·rename_i c;rw[if_neg c]at h;split
  ·simp
  ·rename_i c2;rw[if_neg c2]at h;simp at h
end Go.aT
namespace Go.Av
open Go.Proofs Go.Proofs.Tryz Go.aT
theorem Yg(un:List UInt8->cZ×Int)(t:Nat)(s:St)(h:jU t s)(x:Int×Int)(hx:0<=x.1/\x.1<=4000000)(hu:Mn un (BO (s.D.read (cG s.jn s.pn+x.1) x.2).2.1.flatten)):aE prog 62 [.obj 6 0,.p (kG x)] ⟨bO 0 7 s,fh 7,17⟩ (.agg true [.p (dI (s.read un x).2.1),.p (.int (s.read un x).2.2)]) ⟨bO 0 17 (s.read un x).1,fh 17,27⟩:=by
 obtain⟨Z,hZ⟩:∃Z,s.read un x=Z:=⟨_,rfl⟩;rw[hZ];unfold St.read at hZ;refine ah (rs:=[_,_]) [] [(1,[(4,.r 1),(8,.r 1),(9,.w [1]),(15,.w [1])])] [(1,6)] func62 rfl ?_;have Q0:=h.pn;have hjn:=h.jn;have Ai:cG s.jn s.pn=1+s.jn+s.pn*8:=rfl;have w3:IntKind.i64.wrap (cG s.jn s.pn+x.1)=cG s.jn s.pn+x.1:=aD;have C9:=yM s.jn s.pn (by omega) (by omega);have hrd:=CL s.D (t*t) h.D (cG s.jn s.pn+x.1) x.2 (by omega);obtain⟨R,hR⟩:∃R,s.D.read (cG s.jn s.pn+x.1) x.2=R:=⟨_,rfl⟩;have Ja:R.2.1.flatten.length<=1000000000/\R.2.1.length<=1000000000:=by
  have:=TY h.D (cG s.jn s.pn+x.1) x.2;rw[hR]at this;have h2:=AA this.2;omega
 rw[hR]at hrd hZ hu;obtain⟨D',L,e⟩:=R;simp only at hrd hZ hu Ja;simp[bO,aG,aj,cM,bR,bN,cz];refine jI [0] C9 ?_;simp[w3];refine qU [0,1,2,7] hrd ?_;by_cases c1:e=2
 ·subst c1;rw[if_pos rfl]at hZ;rw[<-hZ];simp[-az,aj,St.dev,rM,results62];exact⟨[(17,18),(18,8),(19,9),(20,10),(21,11),(22,12),(23,13),(24,14),(25,15),(26,16)],by simp⟩
 rw[if_neg c1]at hZ;have iP:(e==2)=false:=by simpa using c1
 by_cases c2:e=0
 ·subst c2;rw[if_pos rfl]at hZ;have hj:=Gy L (by omega) (by omega);obtain⟨b,hb⟩:∃b,L.flatten=b:=⟨_,rfl⟩;rw[hb]at hZ hu hj Ja;have V8:(b.take 2).length<=2:=by simp;omega
  have hn2:=vg (b.take 2) (by omega);have hw2:=Zk (b.take 2) V8;obtain⟨m,hm⟩:∃m:Nat,min 2 b.length=m:=⟨_,rfl⟩;have hmn:(if(b.length:Int)<2 then(b.length:Int)else 2)=(m:Int):=by split<;>omega
  have oK:List.take m (af b)=af (b.take 2):=by
   rw[<-hm];simp only[af,<-List.map_take];congr 1;by_cases c:2<=b.length
   ·rw[Nat.min_eq_left c]
   ·rw[Nat.min_eq_right (by omega),fY (Nat.le_refl _),fY (by omega)]
  have hrn:uP b=cq (b.take 2)+2:=rfl;have w4:IntKind.i64.wrap (cq (b.take 2)+2)=uP b:=aD;have w5:IntKind.i64.wrap (uP b+4)=uP b+4:=aD;simp[aj];refine bS hj ?_;simp[hmn,oK];refine⟨fun y h=>(cF _ y h).symm,by omega,bZ hn2 (by simp) ?_⟩;unfold QU at hZ;by_cases c3:(b.length:Int)<uP b+4
  ·rw[if_pos c3]at hZ;rw[<-hZ];simp[-az,w4,w5,c3,St.dev,rM,results62];exact⟨[(17,18),(18,8),(19,9),(20,10),(21,11),(22,12),(23,13),(24,14),(25,15),(26,16)],by simp⟩
  ·rw[if_neg c3]at hZ;obtain⟨q,hq⟩:∃q:Nat,(uP b+4).toNat=q:=⟨_,rfl⟩;have hq2:uP b+4=(q:Int):=by omega
   have hO:=Cz (b.take q) (by simp;omega);have zX:=KV (b.take q);unfold BO at hu hZ;rw[hq]at hu hZ;obtain⟨O,hOe⟩:∃O,dY (b.take q)=O:=⟨_,rfl⟩;rw[hOe]at hu hZ hO zX;obtain⟨o,eo⟩:=O;simp only at hu hZ hO zX;simp[w4,w5,c3];refine⟨fun y h=>(cF _ y h).symm,by omega,by omega,?_⟩;rw[hq];refine bZ hO (by simp[af]) ?_;by_cases c4:eo=0
   ·subst c4;rw[if_pos rfl]at hZ;obtain⟨U,hU⟩:∃U,un (o.drop 2)=U:=⟨_,rfl⟩;unfold Mn at hu;rw[hU]at hu hZ;obtain⟨ue,uc⟩:=U;simp only at hu hZ;have hoo:2<=o.length:=by
     have:=zX rfl;rw[this,List.length_take];omega
    simp;refine⟨fun y h=>(cF _ y h).symm,hoo,?_⟩;refine bZ hu (by simp[af]) ?_;by_cases c5:uc=0
    ·subst c5;rw[if_pos rfl]at hZ;rw[<-hZ];simp[-az,St.dev,results62];exact⟨[(17,18),(18,8),(19,9),(20,10),(21,11),(22,12),(23,13),(24,14),(25,15),(26,16)],by simp⟩
    ·rw[if_neg c5]at hZ;rw[<-hZ];have qS:(uc !=0)=true:=by simpa using c5
     simp[-az,St.dev,qS,rM,results62];exact⟨[(17,18),(18,8),(19,9),(20,10),(21,11),(22,12),(23,13),(24,14),(25,15),(26,16)],by simp⟩
   ·rw[if_neg c4]at hZ;rw[<-hZ];have kT:(eo !=0)=true:=by simpa using c4
    simp[-az,St.dev,kT,rM,results62];exact⟨[(17,18),(18,8),(19,9),(20,10),(21,11),(22,12),(23,13),(24,14),(25,15),(26,16)],by simp⟩
 ·rw[if_neg c2]at hZ;rw[<-hZ];have dM:(e !=0)=true:=by simpa using c2
  simp[-az,aj,St.dev,rM,iP,dM,results62];exact⟨[(17,18),(18,8),(19,9),(20,10),(21,11),(22,12),(23,13),(24,14),(25,15),(26,16)],by simp⟩
end Go.Av
namespace Go.aT
open Go.Av
def St.get(un:List UInt8->cZ×Int)(s:St)(key:List UInt8):St×cZ×Bool×Int:=if Uo s.ix key=true then
 (if(s.read un (s.ix.getD (Fx s.ix key) UF).eJ).2.2=0 then((s.read un (s.ix.getD (Fx s.ix key) UF).eJ).1,(s.read un (s.ix.getD (Fx s.ix key) UF).eJ).2.1,true,0)
 else((s.read un (s.ix.getD (Fx s.ix key) UF).eJ).1,rM,false,(s.read un (s.ix.getD (Fx s.ix key) UF).eJ).2.2))else(s,rM,false,0)
def St.Wa(s:St)(x:Int×Int):List UInt8:=BO (s.D.read (cG s.jn s.pn+x.1) x.2).2.1.flatten
end Go.aT
namespace Go.Av
open Go.Proofs Go.aT
theorem Sc{l:List Kn}{i:Nat}(h:i<l.length):((A0 l).drop (i*4)).take 4=[PC.str l[i].key,.int l[i].order,.int l[i].place,.sl (l[i].body.map kG)]:=by
 induction l generalizing i with
 |nil=>simp at h
 |cons x l ih=>
  cases i with
  |zero=>simp[tN]
  |succ i=>
   have:=ih (i:=i) (by simpa using h);rw[tN,show(i+1)*4=i*4+1+1+1+1 by omega];simpa using this
end Go.Av
namespace Go.aT
open Go.Av
def Bg(r:Int):List (Int×Int)->aN->List UInt8->aN×List UInt8×Int
 |[],D,o=>(D,o,0)
 |e::l,D,o=>if(D.read (r+e.1) e.2).2.2=0 then Bg r l (D.read (r+e.1) e.2).1 (o++(D.read (r+e.1) e.2).2.1.flatten)else((D.read (r+e.1) e.2).1,[],(D.read (r+e.1) e.2).2.2)
def St.XR(s:St)(x:cZ):Bool:=Uo s.ix (x.uri++10::x.var)&&(decide ((s.ix.getD (Fx s.ix (x.uri++10::x.var)) UF).order=x.order)&&(decide ((s.ix.getD (Fx s.ix (x.uri++10::x.var)) UF).body=x.body)&&(decide (x.size<=esz x.body)&&decide (0<=x.size))))
def St.body(s:St)(x:cZ):St×List UInt8×Int:=if s.XR x=true then
 (s.dev (Bg (cG s.jn s.pn) x.body s.D []).1,if(Bg (cG s.jn s.pn) x.body s.D []).2.2=0 then(if zi ((Bg (cG s.jn s.pn) x.body s.D []).2.1.take x.size.toNat)=x.sum then((Bg (cG s.jn s.pn) x.body s.D []).2.1.take x.size.toNat,0)else([],33))else([],(Bg (cG s.jn s.pn) x.body s.D []).2.2))else(s,[],2)
end Go.aT
namespace Go.Av
open Go.Proofs Go.aT
end Go.Av
namespace Go.aT
open Go.Av
structure Sm where
 s:St
 e:cZ
 rest:List UInt8
 ended:Bool
 kept:Bool
def Cq(e:cZ):Bool:=e.right&&(decide (e.order=0)&&(decide (e.size=0)&&(decide (e.sum=0)&&decide (e.body=[]))))
end Go.aT
namespace Go.Av
open Go.Proofs Go.Proofs.Tryz Go.aT
def AY(l:List (Int×Int)):List PC:=l.flatMap fun x=>[PC.int x.1,PC.int x.2]
def ni(l:List (Int×Int)):Ob:=⟨157,2,(AY l).map .p⟩
def nE(o d:Nat)(w:Sm):Ob:=⟨141,19,[.obj o 0,.p (.str w.e.uri),.p (.sl (w.e.names.map PC.str)),.p (.str w.e.var),.p (.str w.e.st.m),.p (.str w.e.st.t),.p (.int w.e.st.st),.p (.str w.e.st.r),.p (.int w.e.st.mi),.p (.sl (w.e.fields.map nX)),.p (.int w.e.asked),.p (.int w.e.got),.p (.int w.e.order),.p (.int w.e.size),.p (nj w.e.sum),.view d 0 w.e.body.length 2 none,.p (cy w.rest),.p (.bool w.ended),.p (.bool w.kept)]⟩
@[reducible]def smO(b u:Nat)(w:Sm):Ob:=nE (b+6) (u+10) w
def jG(b u:Nat)(w:Sm):List (Nat×Ob):=(b+7,smO b u w)::(u+10,ni w.e.body)::bO b u w.s
theorem EH(xs:List (List UInt8))(hb:xs.length<=1000000000000):aq prog 55 [.sl (xs.map PC.str)] (.sl (xs.map PC.str)):=by
 have hw:∀x∈xs.map PC.str,x.width=1:=by intro y hy;obtain⟨x,_,rfl⟩:=List.mem_map.1 hy;rfl
 have ht:∀x∈xs.map PC.str,cw x=true:=by intro y hy;obtain⟨x,_,rfl⟩:=List.mem_map.1 hy;rfl
 have h:=Ih 0 (xs.map PC.str) hw ht (by simpa using hb);have e:(xs.map PC.str).flatMap aU=((xs.map PC.str).flatMap ga).map AV.p:=by
  induction xs with
  |nil=>rfl
  |cons c l ih=>simp[ga,aU]
 have e2:((xs.map PC.str).flatMap ga).length=xs.length:=by
  clear h hw ht e hb
  induction xs with
  |nil=>rfl
  |cons c l ih=>simp[ga]
 have hp:=sY h (ob:=⟨9,1,((xs.map PC.str).flatMap ga).map .p⟩) (ys:=xs.map PC.str) (by simp) rfl (by omega) (by simp) (by rw[e];exact fY (by simp)) rfl hw ht;exact bI (xs:=[_]) hp ⟨_,rfl,.inl rfl⟩
theorem Y':dP prog 56:=⟨Tryz.f56,func56,by kernel_rfl,by kernel_rfl⟩
theorem TM(nx:Nat)(xs:List PC)(hw:∀x∈xs,x.width=2)(ht:∀x∈xs,cw x=true)(hb:xs.length<=1000000000000):aE prog 56 [.p (.sl xs)] ⟨[],[],nx⟩ (.view nx 0 xs.length 2 none) ⟨[(nx,⟨139,2,(xs.flatMap ga).map .p⟩)],[],nx+1⟩:=by
 refine qR (pre:=[]) (post:=[]) Y' ?_ ?_
 ·rintro rfl;refine fG (r:= .p .nil) (aM:=⟨[],[],nx⟩) (el:=139) (s:=2) ?_ trivial;refine ah (rs:=[.p .nil]) [7] [] [] func56 rfl ?_;simp[results56];exact⟨[],by simp⟩
 ·refine ah (rs:=[_]) [7] [] [] func56 rfl ?_;simp[results56];refine⟨hw,ht,by omega,by omega,[],?_⟩;simp
theorem EI(xs:List Fd)(hb:xs.length<=1000000000000):aq prog 56 [.sl (xs.map nX)] (.sl (xs.map nX)):=by
 have hw:∀x∈xs.map nX,x.width=2:=by intro y hy;obtain⟨x,_,rfl⟩:=List.mem_map.1 hy;rfl
 have ht:∀x∈xs.map nX,cw x=true:=by intro y hy;obtain⟨x,_,rfl⟩:=List.mem_map.1 hy;rfl
 have h:=TM 0 (xs.map nX) hw ht (by simpa using hb);have e:(xs.map nX).flatMap aU=((xs.map nX).flatMap ga).map AV.p:=by
  clear h hw ht hb
  induction xs with
  |nil=>rfl
  |cons c l ih=>rw[List.map_cons,List.flatMap_cons,List.flatMap_cons,List.map_append,ih];rfl
 have e2:((xs.map nX).flatMap ga).length=xs.length*2:=by
  clear h hw ht e hb
  induction xs with
  |nil=>rfl
  |cons c l ih=>rw[List.map_cons,List.flatMap_cons,dU,ih];simp[ga];omega
 have hp:=sY h (ob:=⟨139,2,((xs.map nX).flatMap ga).map .p⟩) (ys:=xs.map nX) (by simp) rfl (by omega) (by simp[e2]) (by rw[e];exact fY (by simp[e2])) (by simp) hw ht;exact bI (xs:=[_]) hp ⟨_,rfl,.inl rfl⟩
abbrev OH(e:cZ):PC:= .agg false [.str e.uri,.sl (e.names.map PC.str),.str e.var,.str e.st.m,.str e.st.t,.int e.st.st,.str e.st.r,.int e.st.mi,.sl (e.fields.map nX),.int e.asked,.int e.got,.int e.order,.int e.size,nj e.sum,.nil]
def afj(s:St)(e:cZ):Sm:=⟨s,e,[],false,false⟩
theorem TN(s:St)(e:cZ)(he:e.Ok)(hg:Cq e=true):aE prog 12 [.obj 6 0,.p (OH e)] ⟨bO 0 7 s,fh 7,17⟩ (.agg true [.obj 17 0,.p (.int 0)]) ⟨(17,nE 6 18 (afj s e))::(18,ni [])::bO 0 7 s,fh 7,19⟩:=by
 unfold Cq at hg;simp only[Bool.and_eq_true,decide_eq_true_eq]at hg;obtain⟨g1,g2,g3,g4,g5⟩:=hg;have hR:aq prog 54 [.agg false [.str e.uri,.sl (e.names.map PC.str),.str e.var,.str e.st.m,.str e.st.t,.int e.st.st,.str e.st.r,.int e.st.mi,.sl (e.fields.map nX),.int e.asked,.int e.got,.int e.order,.int e.size,nj e.sum,.sl []]] (.bool true):=by
  have:=xG e he;have e2:dI e= .agg false [.str e.uri,.sl (e.names.map PC.str),.str e.var,.str e.st.m,.str e.st.t,.int e.st.st,.str e.st.r,.int e.st.mi,.sl (e.fields.map nX),.int e.asked,.int e.got,.int e.order,.int e.size,nj e.sum,.sl []]:=by
   simp[dI,g5]
  rw[g1,e2]at this;exact this
 have hC1:=EH e.names (by have:=he.nl;omega);have hC2:=EI e.fields (by have:=he.fl;omega);have key:aE prog 12 [.obj 6 0,.p (OH e)] ⟨bO 0 7 s,fh 7,17⟩ (.agg true [.obj 17 0,.p (.int 0)]) ⟨(17,⟨141,19,[.obj 6 0,.p (.str e.uri),.p (.sl (e.names.map PC.str)),.p (.str e.var),.p (.str e.st.m),.p (.str e.st.t),.p (.int e.st.st),.p (.str e.st.r),.p (.int e.st.mi),.p (.sl (e.fields.map nX)),.p (.int e.asked),.p (.int e.got),.p (.int 0),.p (.int 0),.p (nj 0),.p .nil,.p .nil,.p (.bool false),.p (.bool false)]⟩)::bO 0 7 s,fh 7,18⟩:=by
  refine ah (rs:=[_,_]) [3,41] [(3,[(1,.r 1),(2,.w [1]),(4,.r 1),(5,.w [1]),(7,.s 1 []),(9,.s 1 [])])] [(1,17)] func12 rfl ?_;simp[bO];refine bS hR ?_;simp[g2,g3,g4];refine bS hC1 ?_;simp;refine bS hC2 ?_;simp[-az,results12];exact⟨[(17,18)],by simp[aG,aj,cM,bR,bN,cz]⟩
 have k2:=mI (id:=17) (j:=16) (x:= .p .nil) (.p (cy [])) key rfl rfl (.inr (.inl ⟨.nil,rfl,.inr rfl⟩));have k3:=oa (id:=17) (j:=15) 157 2 k2 rfl rfl;refine ye k3 _ ?_ ?_ ?_ ?_
 ·simp[ay,bO,nE,afj,ni,AY,g2,g3,g4,g5,Tb.aP,Tb.aS,del]
 ·simp[ay,Tb.aP,Tb.aS]
 ·simp[bO]
 ·simp[Tb.aP,Tb.aS]
end Go.Av
namespace Go.Av
open Go.RowKit Go.ChangeShapes Go.WideShapes Go.ChangeAt
section
variable{P:Program}
def EK(P:Program)(t:TypeId)(S:PC->Prop):Prop:=∀(H:Type) (enc:TypeId×Value->H) (W:World) (fuel:Nat) (cs:List Value) (r:DataW H×List MemPlace),DataW.trod enc P W 0 (fun _=>true) true fuel t cs=some r->(∀n∈r.1.weights P t,n<=reachBytes)->∃u x,u.cells.toList=cs/\gO (m8 W) u x/\S x/\cw x=true/\(∀c∈cs,c.oneCell'=true)
abbrev KE(P:Program)(t:TypeId)(S:PC->Prop):Prop:=EK P t S
theorem EK.c{t:TypeId}{S:PC->Prop}(h:EK P t S):KE P t S:=h
theorem EK.mono{t:TypeId}{S S':PC->Prop}(h:EK P t S)(hS:∀x,S x->S' x):EK P t S':=fun H enc W fuel cs r hr hw0=>by
 obtain⟨u,x,h1,h2,h3,h4⟩:=h H enc W fuel cs r hr hw0;exact⟨u,x,h1,h2,hS x h3,h4⟩
theorem KE.mono{t:TypeId}{S S':PC->Prop}(h:KE P t S)(hS:∀x,S x->S' x):KE P t S':=EK.mono h hS
theorem GQ{t:TypeId}{k:IntKind}(ht:P.underlying t=some (.int k)):EK P t (fun x=>∃n,x= .sc (.int k n)/\(Lit.int k n).wf=true):=fun H enc W fuel cs r hr hw0=>by
 obtain⟨n,rfl,_,hw⟩:=DataW.trod_int ht hr;exact⟨.int k n,.sc (.int k n),rfl,.sc _ rfl,⟨n,rfl,hw⟩,rfl,by simp[Value.oneCell']⟩
theorem KD{t:TypeId}(ht:P.underlying t=some .string):EK P t (fun x=>∃s:List UInt8,x= .str s/\s.length<=reachBytes):=fun H enc W fuel cs r hr hw0=>by
 obtain⟨s,rfl,rfl,_⟩:=DataW.trod_string ht hr;refine⟨.string s,.sc (.string s),rfl,.sc _ rfl,⟨s.data.toList,?_,?_⟩,rfl,by simp[Value.oneCell']⟩
 ·show PC.sc _=PC.sc (uN _);simp[uN]
 ·exact hw0 _ (by simp[DataW.weights])
theorem P9{w:World}{base:Nat}{a:Addr}{n:Nat}{cs:List Value}(h:w.cells? base a n=some cs):cs.length=n/\∀i,i<n->w.cell? (a.add i)=cs[i]?:=by
 unfold World.cells? at h;split at h
 ·exact⟨by simpa using mapM_some_length h,fun i hi=>mapM_some_get h i i (by simp[hi])⟩
 ·cases h
theorem sQ{a:Addr}(h:a.spot=none):a=⟨a.block,a.off,none⟩:=by cases a;simp_all
theorem add_plain{a:Addr}(h:a.spot=none)(i:Nat):a.add i=⟨a.block,a.off+i,none⟩:=by
 unfold Addr.add;split
 ·rename_i e;subst e;rw[sQ h];rfl
 ·rw[sQ h]
theorem Hg{w:World}{a:Addr}{v:Value}(h:w.cell? a=some v):a.spot=none:=by
 unfold World.cell? at h;split at h
 ·split at h
  ·cases h
  ·rename_i hn;cases hs:a.spot with
   |none=>rfl
   |some x=>rw[hs]at hn;simp at hn
 ·cases h
theorem I4{H:Type}{e:TypeId}:∀{ds:List (DataW H)} {d:DataW H},d∈ds->∀n∈d.weights P e,n∈DataW.weightsAll P e ds
 |x::ds,d,h,n,hn=>by
  simp only[DataW.weightsAll,iR];rcases List.mem_cons.1 h with rfl|h
  ·exact .inl hn
  ·exact .inr (I4 h n hn)
theorem Fo{e:TypeId}{S:PC->Prop}(he:EK P e S)(hz:0<P.cellsOf e){H:Type}{enc:TypeId×Value->H}{W:World}{m:Nat}{a:Addr}(ha:a.spot=none):∀(n:Nat),(∀i,i<n->∃y,(W.cells? 0 (a.add (i*P.cellsOf e)) (P.cellsOf e)).bind (DataW.trod enc P W 0 (fun _=>true) true m e)=some y/\∀n∈y.1.weights P e,n<=reachBytes)->∃us xs,us.length=n/\cJ (m8 W) us xs/\(∀u∈us,u.cells.size=P.cellsOf e)/\(∀v∈cellsOf us,v.oneCell'=true)/\At (m8 W) a.block a.off (cellsOf us)/\(cellsOf us).length=n*P.cellsOf e/\(∀x∈xs,S x)
 |0,_=>⟨[],[],rfl,.nil,by simp,by simp[cellsOf],fun j v h=>by simp[cellsOf]at h,by simp[cellsOf],by simp⟩
 |n+1,h=>by
  obtain⟨us,xs,h1,h2,h3,h4,h5,h6,h7⟩:=Fo he hz ha n fun i hi=>h i (by omega);obtain⟨y,hy,Is⟩:=h n (by omega);cases hc:W.cells? 0 (a.add (n*P.cellsOf e)) (P.cellsOf e)with
  |none=>rw[hc]at hy;cases hy
  |some cs=>
   rw[hc]at hy;obtain⟨u,x,k1,k2,k3,_,k4⟩:=he H enc W m cs y hy Is;obtain⟨c1,c2⟩:=P9 hc;have hsz:u.cells.size=P.cellsOf e:=by rw[<-c1,<-k1];simp
   have hcell:cellsOf (us++[u])=cellsOf us++cs:=by simp[cellsOf,k1]
   refine⟨us++[u],xs++[x],by simp[h1],h2.append (.cons k2 .nil),?_,?_,?_,?_,?_⟩
   ·intro v hv;rcases iR.1 hv with hv|hv
    ·exact h3 v hv
    ·simp at hv;subst hv;exact hsz
   ·rw[hcell];intro v hv;rcases iR.1 hv with hv|hv
    ·exact h4 v hv
    ·exact k4 v hv
   ·rw[hcell];intro j v hj;rw[List.getElem?_append]at hj;split at hj
    ·exact h5 j v hj
    ·rename_i hlt;have hj':j-(cellsOf us).length<P.cellsOf e:=by
      rw[<-c1];exact(List.getElem?_eq_some_iff.1 hj).1
     have:=c2 _ hj';rw[hj,add_plain ha,add_plain (a:=⟨a.block,a.off+n*P.cellsOf e,none⟩) rfl]at this;show W.cell? ⟨a.block,a.off+j,none⟩=some v;rw[<-this];have e:a.off+j=a.off+n*P.cellsOf e+(j-(cellsOf us).length):=by rw[h6]at hlt⊢;omega
     rw[e]
   ·rw[hcell,dU,h6,c1,Nat.add_mul];omega
   ·intro z hz;rcases iR.1 hz with hz|hz
    ·exact h7 z hz
    ·simp at hz;subst hz;exact k3
theorem wZ{w:World}{base:Nat}{a:Addr}{n k:Nat}{cs:List Value}(hn:0<n)(hk:k=0)(h:w.cells? base (a.add k) n=some cs):a.spot=none:=by
 subst hk;obtain⟨h1,h2⟩:=P9 h;have h3:=h2 0 hn;have e:(a.add 0).add 0=a:=by simp[Addr.add]
 rw[e]at h3;cases cs with
 |nil=>simp at h1;omega
 |cons v vs=>exact Hg (v:=v) (by simpa using h3)
theorem zn{t e:TypeId}{S:PC->Prop}(ht:P.underlying t=some (.slice e))(hz:0<P.cellsOf e)(he:EK P e S):KE P t (fun x=>∃xs,x= .sl xs/\xs.length<=maxLen/\∀y∈xs,S y):=fun H enc W fuel cs r hr hw0=>by
 rcases DataW.trod_slice ht hr with⟨rfl,_⟩|⟨a,len,cap,elems,rest,n,rfl,rfl,rfl,_,hl,hc,hlen,hel,hsp,_⟩
 ·exact⟨.slice none 0 0,.sl [],rfl,.cX,⟨[],rfl,by simp,by simp⟩,rfl,by simp[Value.oneCell']⟩
 ·by_cases h0:cap=0
  ·subst h0;obtain rfl:len=0:=by omega
   exact⟨.slice (some a) 0 0,.sl [],rfl,.rH a,⟨[],rfl,by simp,by simp⟩,rfl,by simp[Value.oneCell']⟩
  have ha:a.spot=none:=by
   rcases Nat.eq_zero_or_pos len with hz0|hp
   ·obtain⟨HK,Jy⟩:=hsp rfl;have:=Jy 0 (by omega);rw[kq (by omega)]at this;cases Ji:W.cells? 0 (a.add ((len+0)*P.cellsOf e)) (P.cellsOf e)with
    |none=>rw[Ji]at this;cases this
    |some cs=>exact wZ hz (by subst hz0;simp) Ji
   ·have:=hel 0 hp;rw[kq (by omega)]at this;cases Ji:W.cells? 0 (a.add (0*P.cellsOf e)) (P.cellsOf e)with
    |none=>rw[Ji]at this;cases this
    |some cs=>exact wZ hz (by simp) Ji
  obtain⟨us,xs,h1,h2,h3,h4,h5,_,h7⟩:=Fo (H:=H) (enc:=enc) (W:=W) (m:=n) he hz ha len fun i hi=>⟨elems[i]'(by omega),by rw[hel i hi];simp,fun n' hn=>hw0 n' (by
   show n'∈DataW.weights P t (.slice (elems.map (·.1)) (rest.map (·.1)));unfold DataW.weights;rw[ht];simp only[List.mem_cons,iR];exact .inr (.inl (I4 (List.mem_map.2 ⟨_,List.getElem_mem (by omega),rfl⟩) n' hn)))⟩
  refine⟨.slice (some a) len cap,.sl xs,rfl,?_,⟨xs,rfl,by rw[<-h2.length,h1];omega,h7⟩,rfl,by simp[Value.oneCell']⟩;rw[sQ ha];exact .sl h1 hl hc hz h3 h4 h5 h2
def ZG(P:Program):List Field->Nat->List (PC->Prop)->Prop
 |[],_,[]=>True
 |f::fs,o,S::Ss=>f.offset=o/\KE P f.type S/\ZG P fs (o+P.cellsOf f.type) Ss
 |_,_,_=>False
def zq(P:Program):List Field->Nat->Nat
 |[],o=>o
 |f::fs,o=>zq P fs (o+P.cellsOf f.type)
theorem Hh{M:Mem}{u:Value}{x:PC}(h:gO M u x)(hn:cw x=true)(h1:∀c∈u.cells.toList,c.oneCell'=true):cJ M u.cells.toList (ga x):=by
 cases h with
 |agg hs _=>exact hs
 |qi _=>cases hn
 |sc _ h1=>cases u<;>first|exact .cons (.sc _ rfl) .nil|cases h1
 |nil=>exact .cons .nil .nil
 |cX=>exact .cons .cX .nil
 |rH a=>exact .cons (.rH a) .nil
 |sl a b c d e f g i=>exact .cons (.sl a b c d e f g i) .nil
 |ref a b=>exact .cons (.ref a b) .nil
 |fn a=>exact .cons (.fn a) .nil
theorem BG{H:Type}{enc:TypeId×Value->H}{W:World}{m:Nat}{cs:List Value}:∀(fs:List Field) (o:Nat) (Ss:List (PC->Prop)),ZG P fs o Ss->zq P fs o=cs.length->(∀f∈fs,∃y,DataW.trod enc P W 0 (fun _=>true) true m f.type ((cs.drop f.offset).take (P.cellsOf f.type))=some y/\∀n∈y.1.weights P f.type,n<=reachBytes)->∃ys,gY (fun S y=>S y) Ss ys/\cJ (m8 W) (cs.drop o) (ys.flatMap ga)/\∀c∈cs.drop o,c.oneCell'=true
 |[],o,[],_,ht,_=>by
  have:cs.drop o=[]:=by rw[List.drop_eq_nil_iff];exact Nat.le_of_eq (by simpa[zq]using ht.symm)
  exact⟨[],trivial,by rw[this];exact .nil,by rw[this];simp⟩
 |f::fs,o,S::Ss,⟨h1,h2,h3⟩,ht,hy=>by
  obtain⟨ys,k1,k2,k3⟩:=BG fs _ Ss h3 (by simpa[zq]using ht) fun g hg=>hy g (by simp[hg]);obtain⟨y,hf,hfw⟩:=hy f (by simp);rw[h1]at hf;obtain⟨u,x,j1,j2,j3,j4,j5⟩:=h2 H enc W m _ y hf hfw;have e:cs.drop o=(cs.drop o).take (P.cellsOf f.type)++cs.drop (o+P.cellsOf f.type):=by
   rw[<-List.drop_drop,List.take_append_drop]
  refine⟨x::ys,⟨j3,k1⟩,?_,?_⟩
  ·rw[e,List.flatMap_cons];refine cJ.append ?_ k2;rw[<-j1];exact Hh j2 j4 (by rw[j1];exact j5)
  ·rw[e];intro c hc;rcases iR.1 hc with hc|hc
   ·exact j5 c hc
   ·exact k3 c hc
 |[],_,_::_,h,_,_=>h.elim
 |_::_,_,[],h,_,_=>h.elim
theorem mN{t:TypeId}{fs:Array Field}{Ss:List (PC->Prop)}(ht:P.underlying t=some (.struct fs))(htot:zq P fs.toList 0=P.cellsOf t)(hfs:ZG P fs.toList 0 Ss):KE P t (fun x=>∃ys,x= .agg false (ys.flatMap ga)/\gY (fun S y=>S y) Ss ys):=fun H enc W fuel cs r hr hw0=>by
 obtain⟨xs,n,rfl,rfl,hl,hn,hall⟩:=DataW.trod_struct ht hr;obtain⟨ys,k1,k2,k3⟩:=BG (H:=H) (enc:=enc) (W:=W) (m:=n) fs.toList 0 Ss hfs (by rw[htot,hl]) fun f hf=>by
  obtain⟨i,hi⟩:=List.getElem?_of_mem hf;have:=hall i f (by simpa using hi);have qP:i<xs.length:=by have:=(List.getElem?_eq_some_iff.1 hi).1;simp at this;omega
  refine⟨xs[i],by rw[this];simp,fun n' hn=>hw0 n' ?_⟩;show n'∈DataW.weights P t (.agg (xs.map (·.1)));unfold DataW.weights;rw[ht];exact DataW.weights_mem_each (j:=i) (by rw[List.getElem?_map,hi];rfl) (by rw[List.getElem?_map,kq qP];rfl) n' hn
 refine⟨.agg cs.toArray,.agg false (ys.flatMap ga),by simp[Value.cells],.agg (by simpa using k2) (by simpa using k3),⟨ys,rfl,k1⟩,rfl,by simpa using k3⟩
def Yc(P:Program)(t:TypeId)(S:PC->Prop):Prop:=∀(H:Type) (enc:TypeId×Value->H) (W:World) (base:Nat) (v:Value) (d:DataW H) (p:List MemPlace),Value.okWide P W .any base t v->DataW.Trod enc P W 0 (fun _=>true) true t v d p->(∀n∈d.weights P t,n<=reachBytes)->∃x,gO (m8 W) v x/\S x
theorem Bl{t:TypeId}{fs:Array Field}{S:PC->Prop}(ht:P.underlying t=some (.struct fs))(h:KE P t S)(hS:∀x,S x->∃xs,x= .agg false xs):Yc P t S:=fun H enc W base v d p hv hd hw0=>by
 unfold Value.okWide at hv;rw[ht]at hv;obtain⟨cs,rfl,_,ts,_,_,hrow⟩:=hv;obtain⟨fuel,hf⟩:=hd;obtain⟨u,x,h1,h2,h3,_⟩:=h H enc W fuel _ _ hf hw0;obtain⟨xs,rfl⟩:=hS x h3;refine⟨_,?_,h3⟩;cases h2 with
 |agg hs ho=>
  have:Value.agg cs= .agg _:=congrArg Value.agg (Array.toList_inj.1 (show cs.toList=_ from h1.symm));rw[this];exact .agg hs ho
theorem ZH{t:TypeId}{S:PC->Prop}(ht:∀fs,P.underlying t≠some (.struct fs))(ht':∀n e,P.underlying t≠some (.array n e))(h:KE P t S)(hS:∀x,S x->∀b xs,x≠ .agg b xs):Yc P t S:=fun H enc W base v d p hv hd hw0=>by
 have hv':Cell.okWide P W .any base t v:=by
  unfold Value.okWide at hv;split at hv
  ·exact absurd ‹_› (ht _)
  ·exact absurd ‹_› (ht' _ _)
  ·exact hv
 obtain⟨fuel,hf⟩:=hd;have hag:v.cells=#[v]:=by
  cases v<;>try rfl
  exfalso;unfold Cell.okWide at hv';split at hv'<;>first|(simp_all;done)|skip
  unfold Cell.ok at hv';split at hv'<;>simp_all
 rw[hag]at hf;obtain⟨u,x,h1,h2,h3,_,_⟩:=h H enc W fuel _ _ hf hw0;refine⟨x,?_,h3⟩;have:u=v:=by
  cases u<;>first|(simpa[Value.cells]using h1)|skip
  cases h2 with
  |agg _ _=>exact absurd rfl (hS _ h3 _ _)
  |sc _ hh=>cases hh
 rw[<-this];exact h2
theorem rds{H:Type}{enc:TypeId×Value->H}{W:World}{base:Nat}:∀{ts:List TypeId} {Ss:List (PC->Prop)} {vs:List Value} {ds:List (DataW H)} {p:List MemPlace},gY (fun t S=>Yc P t S) ts Ss->(∀(j:Nat) t v,ts[j]?=some t->vs[j]?=some v->Value.okWide P W .any base t v)->DataW.TrodAll enc P W 0 (fun _=>true) true ts vs ds p->(∀n∈DataW.weightsEach P ts ds,n<=reachBytes)->∃xs,cJ (m8 W) vs xs/\gY (fun S x=>S x) Ss xs
 |[],[],vs,ds,p,_,_,h,_=>by obtain⟨rfl,rfl,rfl⟩:=trodAll_nil h;exact⟨[],.nil,trivial⟩
 |t::ts,S::Ss,vs,ds,p,hR,hv,h,hw0=>by
  obtain⟨v,vs',d,ds',p1,q,rfl,rfl,rfl,h1,h2⟩:=trodAll_cons h;obtain⟨x,k1,k2⟩:=hR.1 H enc W base v d p1 (hv 0 t v rfl rfl) h1 (fun n hn=>hw0 n (by simp only[DataW.weightsEach,iR];exact .inl hn));obtain⟨xs,k3,k4⟩:=rds hR.2 (fun j t v ht hj=>hv (j+1) t v (by simpa using ht) (by simpa using hj)) h2 (fun n hn=>hw0 n (by simp only[DataW.weightsEach,iR];exact .inr hn));exact⟨x::xs,.cons k1 k3,k2,k4⟩
 |[],_::_,_,_,_,h,_,_,_=>h.elim
 |_::_,[],_,_,_,h,_,_,_=>h.elim
theorem r_{H:Type}{enc:TypeId×Value->H}(hl:laidOutB P=true){W W':World}(hb:Below W.heap.size W W'){sp:Nat->Bool}:∀{ts:List TypeId} {vs:List Value} {ds:List (DataW H)} {p:List MemPlace},(ts.all fun t=>P.readableRec t&&decide (t<P.types.size))=true->DataW.TrodAll enc P W 0 (fun _=>true) true ts vs ds p->(∀x∈p,x.block<W.heap.size)->(∀x∈p,sp x.block=true)->DataW.TrodAll enc P W' 0 sp true ts vs ds p
 |[],vs,ds,p,_,h,_,_=>by obtain⟨rfl,rfl,rfl⟩:=trodAll_nil h;rfl
 |t::ts,vs,ds,p,hr,h,hlt,hsp=>by
  obtain⟨v,vs',d,ds',p1,q,rfl,rfl,rfl,h1,h2⟩:=trodAll_cons h;simp only[List.all_cons,Bool.and_eq_true,decide_eq_true_eq]at hr;exact trodAll_cons_mk (WideElems.Trod_stays hl hr.1.1 hr.1.2 h1 (fun x hx=>hb.same (hlt x (by simp[hx]))) (fun x hx=>hsp x (by simp[hx]))) (r_ hl hb (by simpa using hr.2) h2 (fun x hx=>hlt x (by simp[hx])) (fun x hx=>hsp x (by simp[hx])))
theorem zu{S:PC->Prop}{xs:List PC}(h:gY (fun(S:PC->Prop) x=>S x) [S] xs):∃x,xs=[x]/\S x:=by
 cases xs with
 |nil=>exact h.elim
 |cons x xs=>cases xs with
  |nil=>exact⟨x,rfl,h.1⟩
  |cons y xs=>exact h.2.elim
theorem iy{S:PC->Prop}{Ss:List (PC->Prop)}{xs:List PC}(h:gY (fun(S:PC->Prop) x=>S x) (S::Ss) xs):∃x ys,xs=x::ys/\S x/\gY (fun(S:PC->Prop) x=>S x) Ss ys:=by
 cases xs with
 |nil=>exact h.elim
 |cons x xs=>exact⟨x,xs,rfl,h.1,h.2⟩
theorem ZI{S T:PC->Prop}{xs:List PC}(h:gY (fun(S:PC->Prop) x=>S x) [S,T] xs):∃x y,xs=[x,y]/\S x/\T y:=by
 obtain⟨x,ys,rfl,h1,h2⟩:=iy h;obtain⟨y,rfl,h3⟩:=zu h2;exact⟨x,y,rfl,h1,h3⟩
theorem ZJ{S T U:PC->Prop}{xs:List PC}(h:gY (fun(S:PC->Prop) x=>S x) [S,T,U] xs):∃x y z,xs=[x,y,z]/\S x/\T y/\U z:=by
 obtain⟨x,ys,rfl,h1,h2⟩:=iy h;obtain⟨y,z,rfl,h3,h4⟩:=ZI h2;exact⟨x,y,z,rfl,h1,h3,h4⟩
theorem C6{f:FuncId}{fn:Func}{s:ChangeSpec}{Ss:List (PC->Prop)}{tr:TypeId}{apart fresh handsOn again:Bool}(hl:laidOutB P=true)(hr:(fn.params.toList.all fun t=>P.readableRec t&&decide (t<P.types.size))=true)(hres:fn.resultTypes=#[tr])(htr:P.underlying tr=some .bool)(hvars:s.vars=[])(hR:gY (fun t S=>Yc P t S) fn.params.toList Ss)(hspec:∀(H:Type) (ds:List (DataW H)),ds.length=fn.params.size->s.fn H ds={results:=[.lit (.bool true)],args:=ds})(hp:∀xs,gY (fun S x=>S x) Ss xs->aq P f xs (.bool true))(H:Type)(enc:TypeId×Value->H)(W:World)(base:Nat)(args:Array Value)(ds gs:List (DataW H))(before:List MemPlace)(hval:∀(j:Nat) t v,fn.params[j]?=some t->args[j]?=some v->Value.okWide P W .any base t v)(hW:DataW.Whole enc P fn.params.toList s.vars apart W args.toList ds gs before)(hg:Wz (m8 W))(hwt:∀n∈DataW.weightsEach P fn.params.toList ds,n<=reachBytes):Calls P f args W fun e W'=>∃v,e= .returned v/\s.post enc P fn apart fresh handsOn again W args v W':=by
 have hW':=hW;obtain⟨p,q,hA,hV,rfl,hfz,hnd⟩:=hW;rw[hvars]at hV;obtain⟨rfl,rfl⟩:=trodVars_none hV;have hlt:∀x∈p,x.block<W.heap.size:=fun x hx=>hW'.lt x (by simp[hx]);obtain⟨xs,k1,k2⟩:=rds hR (fun j t v ht hj=>hval j t v (by simpa using ht) (by simpa using hj)) hA hwt;have hlen:ds.length=fn.params.size:=by
  have:∀{ts:List TypeId} {vs:List Value} {ds:List (DataW H)} {p:List MemPlace},DataW.TrodAll enc P W 0 (fun _=>true) true ts vs ds p->ds.length=ts.length:=by
   intro ts
   induction ts with
   |nil=>intro vs ds p h;obtain⟨rfl,rfl,rfl⟩:=trodAll_nil h;rfl
   |cons t ts ih=>intro vs ds p h;obtain⟨v,vs',d,ds',p1,q,rfl,rfl,rfl,h1,h2⟩:=trodAll_cons h;simp[ih h2]
  simpa using this hA
 refine((hp xs k2).2 (m8 W) W args.toList ⟨fun _ _ _ h=>h,hg⟩ k1).mono fun e W'=>?_;rintro⟨v,N,rfl,hv,_,_,_,hb⟩;obtain rfl:v= .bool true:=by cases hv;rfl
 refine⟨_,rfl,?_⟩;have hsp:=hspec H (ds++[]) (by simpa using hlen);have hold:∀x∈p++[],(fun b=>decide (b<W.heap.size)) x.block=true:=fun x hx=>by simpa using hlt x (by simpa using hx)
 have VL:∀(b:Nat) (sp:Nat->Bool) (hd:Bool),DataW.TrodAll enc P W' b sp hd fn.resultTypes.toList ((Value.bool true).resultList fn.resultTypes.size) (s.fn H (ds++[])).results []:=fun b sp hd=>by
  rw[hsp,hres];exact trodAll_cons_mk (shut_bool htr true) trodAll_mk0
 have P_:∀sp:Nat->Bool,(∀x∈p++[],sp x.block=true)->DataW.TrodAll enc P W' 0 sp true fn.params.toList args.toList (s.fn H (ds++[])).args p:=fun sp h=>by
  rw[hsp];simpa using r_ hl hb hr hA hlt fun x hx=>h x (by simp[hx])
 have hv0:∀sp:Nat->Bool,DataW.TrodVars enc P W' sp s.vars (s.fn H (ds++[])).vars []:=fun sp=>by rw[hsp,hvars];rfl
 refine⟨ds,[],p++[],[],p,[],hW',VL _ _ _,P_ _ hold,hv0 _,World.keptBut_mono (fun x hx=>⟨hx,Or.inr (by simpa using hx)⟩) (hb.frame (·∈p++[])),fun _=>?_⟩;refine⟨ok_one (by rw[hres]) rfl (okWide_bool_mk htr true),_,_,([]++p)++[],⟨[]++p,[],trodAll_append (P_ _ (fun _ _=>rfl)) (VL _ _ _),hv0 _,rfl,?_,?_⟩,?_⟩
 ·intro b off hx;have hx':MemPlace.cell b off∈p:=by simpa using hx
  rw[hb.frozen (p:=⟨b,off,none⟩) (hlt _ hx')];exact hfz b off (by simpa using hx')
 ·intro ha;simpa using hnd ha
 ·intro x hx _;simpa using hx
end
end Go.Av
namespace Go.Av
open Go.Proofs Go.Proofs.Tryz Go.aT Go.ChangeShapes Go.WideShapes Go.ChangeAt Go.RowKit
def KC(x:PC):Prop:=∃n:Int,x= .int n/\-9223372036854775808<=n/\n<=9223372036854775807
theorem agT:laidOutB prog=true:=by kernel_rfl
theorem rd3:Yc prog 3 KC:=ZH (by rw[underlying3];simp) (by rw[underlying3];simp) ((GQ underlying3).mono fun x ⟨n,h,hw⟩=>by
 have hmin:IntKind.i64.min=-9223372036854775808:=rfl;have gZ:IntKind.i64.max=9223372036854775807:=rfl;simp only[Lit.wf,Bool.and_eq_true,decide_eq_true_eq,hmin,gZ]at hw;exact⟨n,h,by omega,by omega⟩) (by rintro x ⟨n,rfl,_⟩ b xs h;cases h)
theorem Fv{W:World}{l:List (String×DataW Unit)}(h:laidMet prog l W)(hm:("icehouse/crc.half",Go.Lib.tabData .u32 (mb.map fun n:Nat=>(n:Int)))∈l):Wz (m8 W):=by
 obtain⟨g,t,cs,fuel,p,hg,ht,ac8,hd⟩:=Go.Lib.laidMet.reads h hm;have hg0:prog.globalNamed "icehouse/crc.half"=some 0:=by kernel_rfl
 obtain rfl:=Option.some.inj (hg0.symm.trans hg);have ht0:(prog.globals[0]?).map (·.type)=some 241:=by kernel_rfl
 obtain rfl:=Option.some.inj (ht0.symm.trans ht);have hu:prog.underlying 241=some (.array 16 46):=by kernel_rfl
 have he:prog.underlying 46=some (.int .u32):=by kernel_rfl
 have hcs:=Go.Lib.cells_of_tab hu he (by kernel_rfl) (by kernel_rfl) hd;intro j n hj;have hlen:j<mb.length:=(List.getElem?_eq_some_iff.1 hj).1;have hc:cs[j]?=some (.int .u32 (n:Int)):=by
  have:=congrArg (fun l=>l[j]?) hcs;simp only[List.getElem?_map,hj,Option.map_some,Array.getElem?_toList]at this;exact this
 have:=World.var?_cell hg0 ac8 j;unfold m8;rw[this];exact hc
end Go.Av
namespace Go.cC
theorem wU:∀(N:Nat) {L:List Int},L.Nodup->(∀p∈L,1<=p/\p<=(N:Int))->L.length<=N
 |0,[],_,_=>by simp
 |0,p::L,_,h=>by have:=h p (by simp);omega
 |N+1,L,hn,h=>by
  have h1:=wU N (L:=L.filter fun p=>p≠((N+1:Nat):Int)) (List.Pairwise.filter _ hn) fun p hp=>by
   have h2:=List.mem_filter.1 hp;have:=h p h2.1;have h3:p≠((N+1:Nat):Int):=by simpa using h2.2
   omega
  have h2:L.length<=(L.filter fun p=>p≠((N+1:Nat):Int)).length+L.count ((N+1:Nat):Int):=by
   clear h1 h hn
   induction L with
   |nil=>simp
   |cons a L ih=>
    by_cases e:a=((N+1:Nat):Int)
    ·rw[List.filter_cons_of_neg (by simp[e]),e,List.count_cons_self];simp only[List.length_cons];omega
    ·rw[List.filter_cons_of_pos (by simpa using e),List.count_cons_of_ne (by simpa using e)];simp only[List.length_cons];omega
  have h3:=List.nodup_iff_count.1 hn ((N+1:Nat):Int);omega
end Go.cC
