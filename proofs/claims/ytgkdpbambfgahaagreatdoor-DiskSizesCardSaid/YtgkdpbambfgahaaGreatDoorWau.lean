/- DiskSizes, part 21: what the functions compute, and the plain law of that; no condition. -/
import Derived.Test.YtgkdpbambfgahaaGreatDoorWat
set_option linter.all false
set_option maxRecDepth 100000
set_option maxHeartbeats 64000000
namespace Go.aW
open Go.Av
def Sm.dH(w:Sm):Sm×Bool:=match w.e.body.getLast? with
 |none=>(w,false)
 |some x=>({w with s:={w.s with rm:=(w.s.rm.hold [(x.1+x.2,1)]).1},e:={w.e with body:=if(w.s.rm.hold [(x.1+x.2,1)]).2=true then w.e.body.dropLast++[(x.1,x.2+1)]else w.e.body}},(w.s.rm.hold [(x.1+x.2,1)]).2)
structure WOk(t:Nat)(w:Sm):Prop where
 s:ic t w.s
 bl:w.e.body.length<=8
 bo:∀e∈w.e.body,0<=e.1/\e.1<=65536/\1<=e.2/\e.2<=65536
end Go.aW
namespace Go.Av
open Go.Proofs Go.aW
theorem o_(a b:List (Int×Int)):zb (a++b)=zb a++zb b:=by simp[zb]
@[simp]theorem akL(l:List (Int×Int)):(zb l).length=l.length*2:=by
 induction l with
 |nil=>rfl
 |cons x l ih=>show(zb ([x]++l)).length=_;rw[o_,List.length_append,ih];simp[zb];omega
theorem HE(t:Nat)(w:Sm)(h:WOk t w):aI Tryz.prog 224 [.obj 7 0] ⟨gU 0 8 w,eR 8,19⟩ (.p (.bool w.dH.2)) ⟨gU 0 19 w.dH.1,eR 19,30⟩:=by
 obtain⟨Z,hZ⟩:∃Z,w.dH=Z:=⟨_,rfl⟩;rw[hZ];unfold Sm.dH at hZ;refine QgQ (rs:=[_]) [] [(5,[(3,.r 1),(6,.r 2),(10,.r 3),(14,.r 3),(18,.w [1,2,3])])] [(1,7),(2,6),(3,18)] Tryz.func224 rfl (by simp[Tryz.ntmps224]) ?_;rcases List.eq_nil_or_concat w.e.body with hb|⟨l,x,hb⟩
 ·rw[hb]at hZ;simp only[List.getLast?_nil]at hZ;rw[<-hZ];simp[-aD,gU,jQ,jD,bF,aC,ax,bZ,bT,bP,b_,hb,Tryz.results224];exact⟨[(19,8),(20,9),(21,10),(22,11),(23,12),(24,13),(25,14),(26,15),(27,16),(28,17),(29,18)],by simp⟩
 ·rw[List.concat_eq_append]at hb;have hx:=h.bo x (by rw[hb];simp);have mg:=h.bl;rw[hb]at mg;simp only[List.length_append,List.length_cons,List.length_nil]at mg;have hh:=Am 5 13 14 15 19 w.s.rm.n (by constructor<;>omega) h.s.rm.n _ _ _ h.s.rm.F h.s.rm.R h.s.rm.W [(x.1+x.2,1)] (by simp);have w1:IntKind.i64.wrap (((l.length+1:Nat):Int)-1)=(l.length:Int):=by rw[af (by omega) (by omega)];omega
  have bd1:zb [x]=[PC.int x.1,PC.int x.2]:=rfl;have w1':IntKind.i64.wrap (l.length:Int)=(l.length:Int):=af (by omega) (by omega);have cnz:((l.length:Int)+1==0)=false:=by simp;omega
  have w2:IntKind.i64.wrap (x.1+x.2)=x.1+x.2:=af (by omega) (by omega);have w3:IntKind.i64.wrap (x.2+1)=x.2+1:=af (by omega) (by omega);rw[hb]at hZ;simp only[List.getLast?_append,List.getLast?_singleton,Option.some_or,List.dropLast_concat]at hZ;simp[gU,jQ,jD,bF,aC,ax,bZ,bT,bP,b_,hb,o_,bd1,w1',cnz,w2];refine⟨by omega,?_⟩;refine az hh (by simp) (by simp[ay]) (by simp[ay]) rfl ?_;have hm:w.s.rm.hold [(x.1+x.2,1)]=({w.s.rm with F:=if d_ w.s.rm.n w.s.rm.F [(x.1+x.2,1)]=true then([(x.1+x.2,1)].map toE).foldl fy w.s.rm.F else w.s.rm.F},d_ w.s.rm.n w.s.rm.F [(x.1+x.2,1)]):=rfl;rw[hm]at hZ;cases hq:d_ w.s.rm.n w.s.rm.F [(x.1+x.2,1)]with
  |false=>
   rw[hq]at hZ;simp only[Bool.false_eq_true,if_false]at hZ;rw[<-hZ];simp[-aD,o_,bd1,Tryz.results224];exact⟨[(19,8),(20,9),(21,10),(22,11),(23,12),(24,19),(25,14),(26,15),(27,16),(28,17),(29,18)],by simp⟩
  |true=>
   rw[hq]at hZ;simp only[if_true]at hZ;rw[<-hZ];have bd2:zb [(x.1,x.2+1)]=[PC.int x.1,PC.int (x.2+1)]:=rfl;have ht:List.take (l.length*2+1) (List.map AV.p (zb l)++[AV.p (PC.int x.1),AV.p (PC.int x.2)])=List.map AV.p (zb l)++[AV.p (PC.int x.1)]:=by
    rw[List.take_append,List.take_of_length_le (by simp)];simp
   have hd:List.drop (l.length*2+1+1) (List.map AV.p (zb l)++[AV.p (PC.int x.1),AV.p (PC.int x.2)])=[]:=List.drop_of_length_le (by simp);simp[-aD,o_,bd2,w3,ht,hd,Tryz.results224];exact⟨[(19,8),(20,9),(21,10),(22,11),(23,12),(24,19),(25,14),(26,15),(27,16),(28,17),(29,18)],by simp⟩
end Go.Av
namespace Go.aW
open Go.Av
def pV(l:List (Int×Int)):Int:=match l.getLast? with
 |none=>0
 |some x=>x.1+x.2-1
def Sm.de(w:Sm):Sm×Int×Int:=if w.dH.2=true then(w.dH.1,pV w.dH.1.e.body,0)else if w.e.body.length=8 then(w,0,30)else({w with s:={w.s with rm:=(w.s.rm.take 1).1},e:={w.e with body:=w.e.body++[(w.s.rm.take 1).2.1]}},pV (w.e.body++[(w.s.rm.take 1).2.1]),0)
theorem HF{w:Sm}(h:w.dH.2=false):w.dH.1=w:=by
 unfold Sm.dH at h⊢;split
 ·rfl
 ·rename_i x hx;rw[hx]at h;simp only at h;simp only[h,Bool.false_eq_true,if_false];unfold Mp.hold at h⊢;simp only at h;simp only[h,Bool.false_eq_true,if_false]
end Go.aW
namespace Go.Av
open Go.Proofs Go.aW
theorem wN{f:FuncId}{caps:List AV}{tb:Tb}(x:AV)(hC:aI Tryz.prog f caps tb (.p (.bool true)) tb)(hm:tb.merge tb tb=tb)(hb:ay tb.bx tb.bx)(hr:ay tb.rw tb.rw)(ht:toAll caps caps)(hx:x.e_ tb.nx=true)(hxt:x.to x)(gR:AV.e_.eE tb.nx caps=true)(ahn:oz tb.nx [] tb tb):aI Tryz.prog 225 [x,.jZ (.func f) caps] tb (.p (.int 0)) tb:=by
 obtain⟨bx,nC,nx⟩:=tb;have r1:=AY (rn:=[]) (nx:=nx) (by simp) x hx;have r2:=jN (rn:=[]) (nx:=nx) (by simp) caps gR;simp only at hx gR;refine QgQ (rs:=[_]) [] [] [] Tryz.func225 rfl (by simp[Tryz.ntmps225]) ?_;simp;refine aN (fun _:Unit=>True) (fun _=>[(0,x),(1,.jZ (.func f) caps)]) (fun _=>⟨bx,nC,nx⟩) (fun _=>0) () trivial _ (AS.le_refl _ _) ⟨[],ahn,by simp[r1,r2,hx,gR];exact hxt⟩ ?_;intro _ _;simp;refine Cy hC ht hb hr rfl ?_;rw[hm];simp[-aD,Tryz.results225];exact⟨[],ahn,by simp,by simp⟩
theorem Pw(w:Sm)(hF:zZ w.s.rm.F)(hp:0<yz w.s.rm.F):aI Tryz.prog 226 [.obj 19 0] ⟨(19,⟨28,1,[.obj 7 0]⟩)::gU 0 8 w,eR 8,20⟩ (.p (.bool true)) ⟨(19,⟨28,1,[.obj 7 0]⟩)::gU 0 8 w,eR 8,20⟩:=by
 have hf:=JM 5 13 14 15 20 w.s.rm.n (by constructor<;>omega) w.s.rm.F w.s.rm.R w.s.rm.W hF;refine QgQ (rs:=[_]) [] [] [] Tryz.func226 rfl (by simp[Tryz.ntmps226]) ?_;simp[gU,jQ,jD,bF,aC,ax,bZ,bT,bP,b_];refine az hf (by simp) (by simp[ay]) (by simp[ay]) rfl ?_;simp[-aD,hp,Tryz.results226];exact⟨[],by simp⟩
def FT(w:Sm):Tb:=⟨(19,⟨28,1,[.obj 7 0]⟩)::gU 0 20 w,eR 20,31⟩
theorem HD(t:Nat)(w:Sm)(h:WOk t w)(hp:w.dH.2=true\/(0<yz w.s.rm.F/\w.s.rm.run 1<w.s.rm.F.length))(hL:∀x∈w.dH.1.e.body,0<=x.1/\x.1<=65536/\0<=x.2/\x.2<=65537)(hT:0<=(w.s.rm.take 1).2.1.1/\(w.s.rm.take 1).2.1.1<=65536/\(w.s.rm.take 1).2.1.2=1):aI Tryz.prog 145 [.obj 7 0] ⟨gU 0 8 w,eR 8,19⟩ (.agg true [.p (.int w.de.2.1),.p (.int w.de.2.2)]) ⟨gU 0 19 w.de.1,eR 19,30⟩:=by
 have pR:=HE t w h;obtain⟨Z,hZ⟩:∃Z,w.de=Z:=⟨_,rfl⟩;rw[hZ];unfold Sm.de at hZ;refine iA (rs:=[_,_]) [1] [(9,[(0,.r 1),(1,.r 1),(5,.r 2),(6,.r 4),(8,.w [1,2,4]),(12,.s 2 [])]),(10,[(0,.r 1),(4,.r 2),(5,.r 1),(9,.r 2),(13,.r 3),(14,.w [1,2,3]),(15,.s 5 [])])] [(1,19),(2,7),(3,30),(4,44),(5,31)] Tryz.func145 rfl (by kernel_rfl) (by kernel_rfl) (by simp[Tryz.ntmps145]) rfl ?_;refine bS mixed (fun _:Unit=>True) (fun _=>[(1,.obj 19 0)]) (fun _=>⟨(19,⟨28,1,[.obj 7 0]⟩)::gU 0 8 w,eR 8,20⟩) ?_ (fun _ _=>?_)
 ·simp[gU,jQ,jD,bF,aC,ax,bZ,bT,bP,b_];exact aA (by simp)
 refine bS mixed (fun w':Sm=>Z=(w',pV w'.e.body,0)/\w'.e.body≠[]/\w'.e.body.length<=100/\∀x∈w'.e.body,0<=x.1/\x.1<=65536/\0<=x.2/\x.2<=65537) (fun _=>[(1,.obj 19 0)]) (fun w'=>FT w') ?_ ?_
 ·have mg:=h.bl;cases hq:w.dH.2 with
  |true=>
   rw[if_pos hq]at hZ;rw[hq]at pR;have hne:w.dH.1.e.body≠[]/\w.dH.1.e.body.length<=100:=by
    unfold Sm.dH at hq⊢;split
    ·rename_i hx;rw[hx]at hq;simp at hq
    ·rename_i x hx;rw[hx]at hq;simp only at hq;simp only[hq,if_true];simp;omega
   generalize w.dH.1=w1 at hZ pR hL hne;simp[gU,jQ,jD,bF,aC,ax,bZ,bT,bP,b_];refine ak [0,1,2,3,4,5,6,7,8,9,10,11,12,13,14,15,16,17,18] pR (by simp) (by simp) (by simp[ay,gU,jQ,jD,bF,aC,ax,bZ,bT,bP,b_]) (by simp[ay]) ?_;simp[gU,jQ,jD,bF,aC,ax,bZ,bT,bP,b_];exact⟨w1,⟨hZ.symm,hne.1,hne.2,fun a b hab=>hL (a,b) hab⟩,aA (by simp[FT,gU,jQ,jD,bF,aC,ax,bZ,bT,bP,b_])⟩
  |false=>
   have hlo:=HF hq;rw[hq,hlo]at pR;rw[hq]at hZ;simp only[Bool.false_eq_true,if_false]at hZ;obtain⟨hp1,N7⟩:=hp.resolve_left (by rw[hq];simp);have hfr:=Pw w (h.s.rm.F.Jk h.s.rm.n) hp1;have hmk:=wN (.obj 6 0) hfr (by simp[Tb.merge,gU,bF,cu,del]) (by simp[ay,gU,jQ,jD,bF,aC,ax,bZ,bT,bP,b_]) (by simp[ay]) (by simp) (by simp) (by simp[AV.to];exact .inl rfl) (by simp) (by simp[oz,gU,jQ,jD,bF,aC,ax,bZ,bT,bP,b_]);have lZ:=vC 5 36 37 38 42 (by constructor<;>omega) w.s.rm h.s.rm 1 (by omega) N7;rw[show((1:Nat):Int)=1 from rfl]at lZ;simp[gU,jQ,jD,bF,aC,ax,bZ,bT,bP,b_];refine ak [0,1,2,3,4,5,6,7,8,9,10,11,12,13,14,15,16,17,18] pR (by simp) (by simp) (by simp[ay,gU,jQ,jD,bF,aC,ax,bZ,bT,bP,b_]) (by simp[ay]) ?_;simp[gU,jQ,jD,bF,aC,ax,bZ,bT,bP,b_];refine ak [0,1,2,3,4,5,6,7,20,21,22,23,24,25,26,27,28,29,30,19] hmk (by simp) (by simp) (by simp[ay,gU,jQ,jD,bF,aC,ax,bZ,bT,bP,b_]) (by simp[ay]) ?_;simp[gU,jQ,jD,bF,aC,ax,bZ,bT,bP,b_];refine ak [0,1,2,3,4,5,6,7,20,21,22,23,24,25,26,27,28,29,30] pR (by simp) (by simp) (by simp[ay,gU,jQ,jD,bF,aC,ax,bZ,bT,bP,b_]) (by simp[ay]) ?_;by_cases c8:w.e.body.length=8
   ·rw[if_pos c8]at hZ;rw[<-hZ];simp[-aD,gU,jQ,jD,bF,aC,ax,bZ,bT,bP,b_,c8,Tryz.results145];exact⟨[(19,31),(20,32),(21,33),(22,34),(23,35),(24,36),(25,37),(26,38),(27,39),(28,40),(29,41)],by simp⟩
   ·rw[if_neg c8]at hZ;have HG:((w.e.body.length:Int)==8)=false:=by simp;omega
    simp[gU,jQ,jD,bF,aC,ax,bZ,bT,bP,b_,HG];refine az lZ (by simp) (by simp[ay]) (by simp[ay]) rfl ?_;have hn:(w.s.rm.take 1).1.n=w.s.rm.n:=by unfold Mp.take;split<;>rfl
    have hlt:w.e.body.length<=8:=mg;obtain⟨M,hM⟩:∃M,w.s.rm.take 1=M:=⟨_,rfl⟩;rw[hM]at hZ hT hn⊢;obtain⟨m',x,b⟩:=M;simp only at hZ hT hn⊢;have bd1:zb [x]=[PC.int x.1,PC.int x.2]:=rfl;have K7:List.take (w.e.body.length*2) (List.map AV.p (zb w.e.body))=List.map AV.p (zb w.e.body):=List.take_of_length_le (by simp);have hbn:∀a b:Int,(a,b)∈w.e.body++[x]->0<=a/\a<=65536/\0<=b/\b<=65537:=by
     intro a b hab;rcases List.mem_append.1 hab with hab|hab
     ·have:=h.bo (a,b) hab;simp only at this;omega
     ·simp at hab;rw[<-hab]at hT;simp only at hT;omega
    simp;exact⟨by omega,by omega,{w with s:={w.s with rm:=m'},e:={w.e with body:=w.e.body++[x]}},⟨hZ.symm,by simp,by simp;omega,hbn⟩,aE [(20,31),(21,32),(22,33),(23,34),(24,35),(25,42),(26,43),(27,38),(28,39),(29,40),(30,45)] (by simp[FT,gU,jQ,jD,bF,aC,ax,bZ,bT,bP,b_,eY,iM,cn,hn,K7,o_,bd1])⟩
 ·rintro w' ⟨hw,hne,hlw,hbo⟩;refine ga mixed ?_;rw[hw];simp only;clear hZ hw hL hT hp pR h;rcases List.eq_nil_or_concat w'.e.body with hb|⟨l,x,hb⟩
  ·exact absurd hb hne
  rw[List.concat_eq_append]at hb;have hx:=hbo x (by rw[hb];simp);have hla:pV (l++[x])=x.1+x.2-1:=by simp[pV]
  have bd1:zb [x]=[PC.int x.1,PC.int x.2]:=rfl;rw[hb]at hlw;simp only[List.length_append,List.length_cons,List.length_nil]at hlw;have w1':IntKind.i64.wrap (l.length:Int)=(l.length:Int):=af (by omega) (by omega);have w2:IntKind.i64.wrap (x.1+x.2)=x.1+x.2:=af (by omega) (by omega);have w3:IntKind.i64.wrap (x.1+x.2-1)=x.1+x.2-1:=af (by omega) (by omega);have hd:List.drop (l.length*2) (List.map AV.p (zb l)++[AV.p (PC.int x.1),AV.p (PC.int x.2)])=[AV.p (PC.int x.1),AV.p (PC.int x.2)]:=List.drop_left' (by simp);simp[-aD,FT,gU,jQ,jD,bF,aC,ax,bZ,bT,bP,b_,hb,o_,bd1,hla,w1',w2,w3,hd,Tryz.results145];refine⟨by omega,?_⟩;exact⟨[(19,20),(20,21),(21,22),(22,23),(23,24),(24,25),(25,26),(26,27),(27,28),(28,29),(29,30)],by simp⟩
end Go.Av
namespace Go.aW
open Go.Av
def Sm.dev(w:Sm)(D:aU):Sm:={w with s:={w.s with D:=D}}
def Sm.one(w:Sm)(x:cU):Sm×Int:=if w.de.2.2=0 then(w.de.1.dev (w.de.1.s.D.write (cG w.de.1.s.jn w.de.1.s.pn+w.de.2.1) [x]).1,(w.de.1.s.D.write (cG w.de.1.s.jn w.de.1.s.pn+w.de.2.1) [x]).2)else(w.de.1,w.de.2.2)
def dW:List cU->Sm->Sm×Int
 |[],w=>(w,0)
 |x::l,w=>if(w.one x).2=0 then dW l (w.one x).1 else w.one x
structure pU(t:Nat)(w:Sm):Prop where
 ok:WOk t w
 p:w.dH.2=true\/(0<yz w.s.rm.F/\w.s.rm.run 1<w.s.rm.F.length)
 l:∀x∈w.dH.1.e.body,0<=x.1/\x.1<=65536/\0<=x.2/\x.2<=65537
 tk:0<=(w.s.rm.take 1).2.1.1/\(w.s.rm.take 1).2.1.1<=65536/\(w.s.rm.take 1).2.1.2=1
theorem oG:∀(k:Nat) (l:List cU) (w w1:Sm),k<=l.length->dW (l.take k) w=(w1,0)->dW l w=dW (l.drop k) w1
 |0,l,w,w1,_,h=>by
  simp[dW]at h;subst h;rfl
 |k+1,[],_,_,hk,_=>by simp at hk
 |k+1,x::l,w,w1,hk,h=>by
  rw[List.take_succ_cons,dW]at h;split at h
  ·rename_i c;rw[dW,if_pos c,List.drop_succ_cons];exact oG k l _ w1 (by simpa using hk) h
  ·rename_i c;rw[h]at c;exact absurd rfl c
theorem Ek(w:Sm):w.de.1.s.D=w.s.D/\w.de.1.s.jn=w.s.jn/\w.de.1.s.pn=w.s.pn:=by
 unfold Sm.de;split
 ·unfold Sm.dH;split<;>exact⟨rfl,rfl,rfl⟩
 ·split<;>exact⟨rfl,rfl,rfl⟩
theorem F_{l:List (Int×Int)}(h:∀x∈l,0<=x.1/\x.1<=65536/\0<=x.2/\x.2<=65537):-1<=pV l/\pV l<=200000:=by
 unfold pV;split
 ·omega
 ·rename_i x hx;have:=h x (List.mem_of_getLast? hx);omega
theorem pU.at{t:Nat}{w:Sm}(h:pU t w):-1<=w.de.2.1/\w.de.2.1<=200000:=by
 unfold Sm.de;split
 ·exact F_ h.l
 ·split
  ·simp only;omega
  ·refine F_ fun x hx=>?_;rcases List.mem_append.1 hx with hx|hx
   ·have:=h.ok.bo x hx;omega
   ·simp at hx;have:=h.tk;rw[hx];omega
end Go.aW
namespace Go.Av
open Go.Proofs Go.aW
theorem zk(t:Nat)(ht:t<=30000)(w:Sm)(b:List UInt8)(hb:b.length<=2000000)(hC:∀k w',k<(bn b).length->dW ((bn b).take k) w=(w',0)->pU t w'):aI Tryz.prog 59 [.obj 7 0,.p (cy b)] ⟨gU 0 8 w,eR 8,19⟩ (.p (.int (dW (bn b) w).2)) ⟨gU 0 19 (dW (bn b) w).1,eR 19,30⟩:=by
 have hS:=qt b (by omega);have amT:=eI b;generalize bn b=L at hC hS amT⊢;obtain⟨Z,hZ⟩:∃Z,dW L w=Z:=⟨_,rfl⟩;rw[hZ];refine QgQ (rs:=[_]) [] [(6,[(3,.r 1),(7,.r 2),(11,.r 1),(14,.r 2),(15,.w [1,2]),(20,.w [1,2])])] [(1,7),(2,6)] Tryz.func59 rfl (by simp[Tryz.ntmps59]) ?_;simp;refine ai hS (by simp) ?_;simp;refine aN (fun a:Nat×Sm=>a.1<=L.length/\dW (L.take a.1) w=(a.2,0)) (fun a=>[(0,.obj 7 0),(10,.p (.sl (L.map cy))),(11,.p (.int L.length)),(12,.p (.int a.1))]) (fun a=>⟨gU 0 19 a.2,eR 19,30⟩) (fun a=>L.length-a.1) (0,w) (by simp[dW]) _ (AS.le_refl _ _) (aE [(19,8),(20,9),(21,10),(22,11),(23,12),(24,13),(25,14),(26,15),(27,16),(28,17),(29,18)] (by simp[gU,jQ,jD,bF,aC,ax,bZ,bT,bP,b_])) ?_;rintro⟨k,v⟩ ⟨q1,q2⟩;simp only at q1 q2;have hsp:=oG k L w v q1 q2;rw[hZ]at hsp;by_cases ck:k<L.length
 ·have hO:=hC k v ck q2;obtain⟨x,hx⟩:∃x,L[k]=x:=⟨_,rfl⟩;have Dy:=HD t v hO.ok hO.p hO.l hO.tk;have dS:=hO.at;obtain⟨f1,f2,f3⟩:=Ek v;have wk:IntKind.i64.wrap ((k:Int)+1)=((k+1:Nat):Int):=by rw[af (by omega) (by omega)];rfl
  rw[List.drop_eq_getElem_cons ck,hx,dW]at hsp;unfold Sm.one at hsp;have lZ:L.take (k+1)=L.take k++[x]:=by rw[List.take_succ_eq_append_getElem ck,hx]
  have hD:=hO.ok.s.D;have Oa:=hO.ok.s.pn;have hjn:=hO.ok.s.jn;rw[<-f2]at hjn;rw[<-f3]at Oa;rw[<-f1]at hD;have e1:(L.take (k+1)).take k=L.take k:=by rw[List.take_take,Nat.min_eq_left (by omega)]
  have e2:=oG k (L.take (k+1)) w v (by simp;omega) (by rw[e1];exact q2);have e3:(L.take k++[x]).drop k=[x]:=List.drop_left' (by simp;omega);rw[lZ,e3,dW]at e2;unfold Sm.one at e2;obtain⟨Y,hY⟩:∃Y,v.de=Y:=⟨_,rfl⟩;rw[hY]at Dy dS hsp hD Oa hjn e2;obtain⟨u,a,e⟩:=Y;simp only at Dy dS hsp hD Oa hjn e2;clear hY f1 f2 f3 hO q2 e1;simp[ck,hx];refine ak [0,1,2,3,4,5,6,7,19,20,21,22,23,24,25,26,27,28,29] Dy (by simp) (by simp) (by simp[ay,gU,jQ,jD,bF,aC,ax,bZ,bT,bP,b_]) (by simp[ay]) ?_;by_cases c:e=0
  ·subst c;simp only[if_true]at hsp e2;have vb:cG u.s.jn u.s.pn=1+u.s.jn+u.s.pn*8:=rfl;have sN:=tC u.s.jn u.s.pn (by omega) (by omega);have w3:IntKind.i64.wrap (cG u.s.jn u.s.pn+a)=cG u.s.jn u.s.pn+a:=af (by omega) (by omega);have lg:=pe u.s.D (t*t) hD (cG u.s.jn u.s.pn+a) (by omega) [x] (by simp) (by have:=PO ht;simp;omega);obtain⟨Y,hY⟩:∃Y,u.s.D.write (cG u.s.jn u.s.pn+a) [x]=Y:=⟨_,rfl⟩;rw[hY]at lg hsp e2;obtain⟨D',e'⟩:=Y;simp only at lg hsp e2;simp[gU,jQ,jD,bF,aC,ax,bZ,bT,bP,b_];refine ak [0] sN (by simp) (by simp) (by simp) (by simp) ?_;simp[w3];refine ak [0,1,2,30] lg (by simp) (by simp) (by simp[ay,ax]) (by simp[ay]) ?_;by_cases cc:e'=0
   ·subst cc;simp only[if_true,dW]at hsp e2;simp[wk,ax];exact⟨k+1,u.dev D',⟨by omega,by rw[lZ];exact e2⟩,by omega,aE [(19,41),(20,31),(21,32),(22,33),(23,34),(24,35),(25,36),(26,37),(27,38),(28,39),(29,40)] (by simp[Sm.dev])⟩
   ·have cc':(e' !=0)=true:=by simpa using cc
    simp only[cc,if_false]at hsp;rw[hsp];simp[-aD,Sm.dev,ax,cc',Tryz.results59];exact⟨[(19,41),(20,31),(21,32),(22,33),(23,34),(24,35),(25,36),(26,37),(27,38),(28,39),(29,40)],by simp⟩
  ·have c':(e !=0)=true:=by simpa using c
   have c'':(e==0)=false:=by simpa using c
   simp only[c,if_false]at hsp;rw[hsp];simp[-aD,gU,jQ,jD,bF,aC,ax,bZ,bT,bP,b_,c',c'',Tryz.results59];exact⟨[(19,30),(20,31),(21,32),(22,33),(23,34),(24,35),(25,36),(26,37),(27,38),(28,39),(29,40)],by simp⟩
 ·obtain rfl:k=L.length:=by omega
  rw[List.drop_length]at hsp;rw[hsp];simp[-aD,gU,jQ,jD,bF,aC,ax,bZ,bT,bP,b_,dW,Tryz.results59];exact⟨[],by simp⟩
end Go.Av
namespace Go.aW
open Go.Av
def Sm.cnt(w:Sm)(b:List UInt8):Sm:={w with e:={w.e with size:=w.e.size+b.length,sum:=tc w.e.sum b}}
def Sm.write(w:Sm)(b:List UInt8):Sm×Int:=({(dW (bn ((w.rest++b).take ((w.rest++b).length/64*64))) (w.cnt b)).1 with rest:=(w.rest++b).drop ((w.rest++b).length/64*64)},(dW (bn ((w.rest++b).take ((w.rest++b).length/64*64))) (w.cnt b)).2)
end Go.aW
namespace Go.Av
open Go.Proofs Go.aW
theorem QS(t:Nat)(ht:t<=30000)(w:Sm)(L:List (List UInt8))(hL:L.length<=1000000)(he:w.ended=false)(hsz:0<=w.e.size/\w.e.size+L.flatten.length<=1048576)(yB:w.e.sum<4294967296)(oe:w.rest.length<=64)(hC:∀k w',k<(bn ((w.rest++L.flatten).take ((w.rest++L.flatten).length/64*64))).length->dW ((bn ((w.rest++L.flatten).take ((w.rest++L.flatten).length/64*64))).take k) (w.cnt L.flatten)=(w',0)->pU t w')(hz:(w.write L.flatten).2=0):aI Tryz.prog 14 [.obj 7 0,.p (.sl (L.map cy))] ⟨gU 0 8 w,eR 8,19⟩ (.p (.int 0)) ⟨gU 0 19 (w.write L.flatten).1,eR 19,30⟩:=by
 have Ea:=Gi L (by omega) (by omega);obtain⟨b,hb⟩:∃b,L.flatten=b:=⟨_,rfl⟩;rw[hb]at hC hz hsz Ea⊢;have hmo:=K_ w.e.sum yB [b] (by simp) (by simp;omega);have Br:=Gi [w.rest,b] (by simp;omega) (by simp);have hff:[w.rest,b].flatten=w.rest++b:=by simp
 have hf1:[b].flatten=b:=by simp
 rw[hff]at Br;rw[hf1]at hmo;obtain⟨Z,hZ⟩:∃Z,(w.write b).1=Z:=⟨_,rfl⟩;rw[hZ];unfold Sm.write at hZ hz;simp only at hZ hz;obtain⟨B,hB⟩:∃B,w.rest++b=B:=⟨_,rfl⟩;rw[hB]at hC hZ hz Br;have hBl:B.length<=1048640:=by rw[<-hB,List.length_append];omega
 obtain⟨n,hn⟩:∃n,B.length/64*64=n:=⟨_,rfl⟩;rw[hn]at hC hZ hz;have hnl:n<=B.length:=by omega
 have Dy:=zk t ht (w.cnt b) (B.take n) (by simp;omega) hC;obtain⟨Y,hY⟩:∃Y,dW (bn (B.take n)) (w.cnt b)=Y:=⟨_,rfl⟩;rw[hY]at Dy hZ hz;obtain⟨u,e⟩:=Y;simp only at Dy hZ hz;subst hz;have w1:IntKind.i64.wrap (1048576-w.e.size)=1048576-w.e.size:=af (by omega) (by omega);have w2:IntKind.i64.wrap (w.e.size+(b.length:Int))=w.e.size+b.length:=af (by omega) (by omega);have c1:¬(1048576-w.e.size<(b.length:Int)):=by omega
 have wn:IntKind.i64.wrap (IntKind.i64.wrap ((B.length:Int)/64)*64)=(n:Int):=by
  have q0:IntKind.i64.wrap ((B.length:Int)/64)=(B.length:Int)/64:=af (by omega) (by omega);rw[q0,af (by omega) (by omega)];omega
 have lZ:List.take n (ah B)=ah (B.take n):=by simp[ah]
 have Dw:List.drop n (ah B)=ah (B.drop n):=by simp[ah]
 refine QgQ (rs:=[_]) [] [] [] Tryz.func14 rfl (by simp[Tryz.ntmps14]) ?_;simp[gU,jQ,jD,bF,aC,ax,bZ,bT,bP,b_,he];refine ai Ea (by simp) ?_;simp[w1,w2,c1];refine ai hmo (by simp) ?_;simp;refine ai Br (by simp) ?_;simp[wn,lZ];refine⟨fun y h=>(cg _ y h).symm,hnl,?_⟩;refine az Dy (by simp) (by simp[ay,he,Sm.cnt,gU,jQ,jD,bF,aC,ax,bZ,bT,bP,b_]) (by simp[ay]) rfl ?_;rw[<-hZ];simp[-aD,Dw,gU,jQ,jD,bF,aC,ax,bZ,bT,bP,b_,Tryz.results14];exact⟨fun y h=>(cg _ y h).symm,hnl,[],by simp⟩
end Go.Av
namespace Go.aW
open Go.Av
theorem vE{a n t:Nat}(h:t<a+n):gY [(a,n)] t=0:=by
 have:¬a+n<=t:=by omega
 simp[gY,this]
theorem Gm{a n k:Nat}(hk:k<n):fy [(a,n)] (a,k)=[(a+k,n-k)]:=by
 have h1:gY [(a,n)] a=0:=vE (by omega);simp[fy,h1,om,lT,hk]
theorem Rz{a n k:Nat}(h1:1<=k)(hk:k<=n):hasB [(a,n)] (a,k)=true:=by
 have h1:gY [(a,n)] a=0:=vE (by omega);simp[hasB,h1,hk]
theorem tn{n a k:Nat}(h1:1<=k)(h:a+k<=n):iB n [] [((a:Int),(k:Int))]=true:=by
 have hm:sS [] (toE ((a:Int),(k:Int)))=false:=by simp[sS]
 simp[iB,Io,hm];omega
theorem toE_nat(a k:Nat):toE ((a:Int),(k:Int))=(a,k):=by simp[toE]
theorem B3{M:Mp}{a n k:Nat}(hF:M.F=[(a,n)])(h1:1<=k)(hk:k<n)(hn:a+n<=M.n):M.hold [((a:Int),(k:Int))]=({M with F:=[(a+k,n-k)]},true):=by
 have hb:d_ M.n M.F [((a:Int),(k:Int))]=true:=by
  unfold d_;rw[tn h1 (by omega),hF];simp[toE_nat,Rz h1 (Nat.le_of_lt hk)]
 unfold Mp.hold;rw[hb,if_pos rfl,hF];simp[toE_nat,Gm hk]
theorem AN{M:Mp}{a n k:Nat}(hF:M.F=[(a,n)])(hk:k<=n):M.run k=0:=by
 unfold Mp.run;rw[hF];simp[hk]
theorem take_one{M:Mp}{a n k:Nat}(hF:M.F=[(a,n)])(h1:1<=k)(hk:k<n):∃R,M.take k=({M with F:=[(a+k,n-k)],R:=R},((a:Int),(k:Int)),true):=by
 have hr:=AN (M:=M) (k:=k) hF (by omega);unfold Mp.take;rw[hr,if_pos ⟨by omega,by rw[hF];simp⟩,hF];refine⟨fS M.R (a,k),?_⟩;simp[Gm hk]
def mo(m:Nat):List (Int×Int):=if m=0 then[]else[(0,(m:Int))]
theorem EE{w:Sm}{m n:Nat}(hF:w.s.rm.F=[(m,n)])(hb:w.e.body=mo m)(hm:1<n)(hn:m+n<=w.s.rm.n):∃R,w.de=({w with s:={w.s with rm:={w.s.rm with F:=[(m+1,n-1)],R:=R}},e:={w.e with body:=mo (m+1)}},(m:Int),0):=by
 unfold mo at hb⊢;rw[if_neg (by omega)];by_cases h0:m=0
 ·subst h0;rw[if_pos rfl]at hb;obtain⟨R,hR⟩:=take_one (M:=w.s.rm) (k:=1) hF (by omega) (by omega);rw[show((1:Nat):Int)=1 from rfl]at hR;refine⟨R,?_⟩;have hl:w.dH=(w,false):=by unfold Sm.dH;rw[hb];rfl
  unfold Sm.de;rw[hl];simp[hb,hR,pV]
 ·rw[if_neg h0]at hb;have hh:=B3 (M:=w.s.rm) (k:=1) hF (by omega) (by omega) hn;rw[show((1:Nat):Int)=1 from rfl]at hh;have hl:w.dH=({w with s:={w.s with rm:={w.s.rm with F:=[(m+1,n-1)]}},e:={w.e with body:=[(0,((m+1:Nat):Int))]}},true):=by
   unfold Sm.dH;rw[hb];simp[hh]
  refine⟨w.s.rm.R,?_⟩;unfold Sm.de;rw[hl];simp[pV]
theorem yX{t:Nat}{w:Sm}{m n:Nat}(hF:w.s.rm.F=[(m,n)])(hb:w.e.body=mo m)(hm:1<n)(hn:m+n<=w.s.rm.n)(hk:ic t w.s):pU t w:=by
 have DD:=hk.rm.n;have hw:WOk t w:=by
  refine⟨hk,?_,?_⟩
  ·rw[hb];unfold mo;split<;>simp
  ·rw[hb];unfold mo;intro e he;split at he
   ·simp at he
   ·simp at he;subst he;simp only;omega
 obtain⟨R,hR⟩:=take_one (M:=w.s.rm) (k:=1) hF (by omega) (by omega);rw[show((1:Nat):Int)=1 from rfl]at hR;refine⟨hw,.inr ⟨by rw[hF];simp[yz];omega,?_⟩,?_,?_⟩
 ·have:=AN (M:=w.s.rm) (k:=1) hF (by omega);rw[show((1:Nat):Int)=1 from rfl]at this;rw[this,hF];simp
 ·intro x hx;unfold Sm.dH at hx;split at hx
  ·have:=hw.bo x hx;omega
  ·rename_i y hy;simp only at hx;split at hx
   ·rcases List.mem_append.1 hx with hx|hx
    ·have:=hw.bo x ((List.dropLast_sublist _).subset hx);omega
    ·simp at hx;have:=hw.bo y (List.mem_of_getLast? hy);subst hx;simp only;omega
   ·have:=hw.bo x hx;omega
 ·rw[hR];exact⟨by simp,by simp;omega,by simp⟩
theorem ic.ahd{t:Nat}{s:St}(h:ic t s){N:Nat}{D:aU}(hD:Gd N D)(hN:N=s.D.kept.length)(wu:1<=N/\N<=65536)(hq:D.q.length<=t*t){m:Mp}(hm:qf m)(hn:m.n=s.rm.n):ic t {s with D:=D,rm:=m}:={h with D:=hD.DZ wu hq,sz:=by simp only[hD.kl,hN];exact h.sz,rm:=hm,J0:=by simp only[hn,hD.kl,hN];exact h.J0}
theorem wv{t N:Nat}(wu:1<=N/\N<=65536):∀(l:List cU) (w:Sm) (m n:Nat),(∀s∈l,s.length=64)->w.s.rm.F=[(m,n)]->w.e.body=mo m->l.length<n->m+n<=w.s.rm.n->ic t w.s->Gd N w.s.D->w.s.D.q.length+l.length<=t*t->∃(r:Nat) (R:List Ext) (D:aU),cG w.s.jn w.s.pn=(r:Int)/\r+w.s.rm.n=N/\dW l w=({w with s:={w.s with rm:={w.s.rm with F:=[(m+l.length,n-l.length)],R:=R},D:=D},e:={w.e with body:=mo (m+l.length)}},0)/\Gd N D/\D.now=ov w.s.D.now (r+m) l/\D.q.length=w.s.D.q.length+l.length/\ic t {w.s with rm:={w.s.rm with F:=[(m+l.length,n-l.length)],R:=R},D:=D}
 |[],w,m,n,_,hF,hb,hl,hn,hS,hG,hq=>by
  have h1:=hS.J0;have h2:=hS.sz;have h3:=hS.jn;have h4:=hS.pn;have hk:=hG.kl;refine⟨(cG w.s.jn w.s.pn).toNat,w.s.rm.R,w.s.D,?_,?_,?_,hG,(EF _ _).symm,by simp,?_⟩
  ·unfold cG;omega
  ·unfold cG at*;omega
  ·obtain⟨s,e,a,b,c⟩:=w;obtain⟨D,J,jn,pn,root,sl,rm,ix,ord,lJ,sure⟩:=s;obtain⟨rn,F,R,W⟩:=rm;obtain⟨x1,x2,x3,x4,x5,x6,x7,x8,x9,x10,body⟩:=e;simp only at hF hb;subst hF;subst hb;simp[dW]
  ·obtain⟨s,e,a,b,c⟩:=w;obtain⟨D,J,jn,pn,root,sl,rm,ix,ord,lJ,sure⟩:=s;obtain⟨rn,F,R,W⟩:=rm;simp only at hF hS;subst hF;simpa using hS
 |x::l,w,m,n,vt,hF,hb,hl,hn,hS,hG,hq=>by
  rw[List.length_cons]at hl hq;have h1:=hS.J0;have h2:=hS.sz;have h3:=hS.jn;have h4:=hS.pn;have hk:=hG.kl;obtain⟨r,hr⟩:∃r:Nat,cG w.s.jn w.s.pn=(r:Int):=⟨(cG w.s.jn w.s.pn).toNat,by unfold cG;omega⟩;have hrN:r+w.s.rm.n=N:=by omega
  obtain⟨R,hR⟩:=EE hF hb (by omega) hn;have hSk:=yX hF hb (by omega) hn hS;obtain⟨g1,g2,g3,g4,g5⟩:=hG.write (a:=r+m) (l:=[x]) (by simp;omega) (by intro s hs;simp at hs;subst hs;exact vt _ (by simp));have hone:w.one x=({w with s:={w.s with rm:={w.s.rm with F:=[(m+1,n-1)],R:=R},D:=(w.s.D.write ((r+m:Nat):Int) [x]).1},e:={w.e with body:=mo (m+1)}},0):=by
   unfold Sm.one;rw[hR];simp only[Sm.dev,if_true,hr];rw[show(r:Int)+(m:Int)=((r+m:Nat):Int) by omega,g1]
  have vk:qf {w.s.rm with F:=[(m+1,n-1)],R:=R}:=by
   have hh:w.de.1.s.rm={w.s.rm with F:=[(m+1,n-1)],R:=R}:=by rw[hR]
   rw[<-hh];unfold Sm.de;split
   ·unfold Sm.dH;split
    ·exact hS.rm
    ·exact(hS.rm.hold _).1
   ·split
    ·exact hS.rm
    ·exact(hS.rm.take _).1
  have hS':=hS.ahd g2 hk.symm wu (by rw[g5];simp;omega) vk rfl;obtain⟨r',R',D',e1,e2,e3,e4,e5,e6,e7⟩:=wv wu l {w with s:={w.s with rm:={w.s.rm with F:=[(m+1,n-1)],R:=R},D:=(w.s.D.write ((r+m:Nat):Int) [x]).1},e:={w.e with body:=mo (m+1)}} (m+1) (n-1) (fun s hs=>vt s (by simp[hs])) rfl rfl (by omega) (by simp only;omega) hS' g2 (by simp only;rw[g5];simp;omega);simp only at e1 e2 e3 e5 e6 e7;obtain rfl:r'=r:=by omega
  have a1:m+1+l.length=m+(x::l).length:=by rw[List.length_cons];omega
  have a2:n-1-l.length=n-(x::l).length:=by rw[List.length_cons];omega
  rw[a1,a2]at e3 e7;refine⟨r',R',D',hr,hrN,?_,e4,?_,?_,e7⟩
  ·rw[dW,hone];simp only[if_true];exact e3
  ·rw[e5,g3];rw[show r'+(m+1)=r'+m+1 by omega];have gy:=EG w.s.D.now (r'+m) x [] (by rw[hG.nl];simp;omega);rw[EF]at gy;rw[<-gy];exact EG _ _ _ _ (by rw[hG.nl];omega)
  ·rw[e6,g5];simp;omega
end Go.aW
namespace Go.Av
open Go.Proofs Go.aW
theorem FC(n:Nat):∀(a k d:Nat),ry a n k d<=d+a
 |0,k,d=>by unfold ry;omega
 |a+1,k,d=>by
  unfold ry;split
  ·have:=FC n a (k*2) (d+1);omega
  ·omega
theorem Kw(n:Nat):depth n<=n+2:=by
 have:=FC n (n+1) 1 1;unfold depth;omega
theorem Pb(s:St)(hF:zZ s.sl.F)(hl:s.ix.length<=1000000)(hp:4*depth s.ix.length+4<=yz s.sl.F):aI Tryz.prog 228 [.obj 17 0] ⟨(17,⟨32,1,[.obj 6 0]⟩)::bF 0 7 s,eR 7,18⟩ (.p (.bool true)) ⟨(17,⟨32,1,[.obj 6 0]⟩)::bF 0 7 s,eR 7,18⟩:=by
 have hf:=JM 4 9 10 11 18 s.sl.n (by constructor<;>omega) s.sl.F s.sl.R s.sl.W hF;have hd:=Pc s hl;have hdl:=Kw s.ix.length;obtain⟨d,hde⟩:∃d,depth s.ix.length=d:=⟨_,rfl⟩;rw[hde]at hd hdl hp;have w1:IntKind.i64.wrap (4*(d:Int))=4*d:=af (by omega) (by omega);have w2:IntKind.i64.wrap (4*(d:Int)+4)=4*d+4:=af (by omega) (by omega);have c1:¬((yz s.sl.F:Int)<4*(d:Int)+4):=by omega
 have c2:4*(d:Int)+4<=(yz s.sl.F:Int):=by omega
 refine QgQ (rs:=[_]) [] [(1,[(0,.r 1),(3,.r 2),(4,.w [1,2]),(5,.r 1),(6,.w [1,2])])] [(1,17),(2,6)] Tryz.func228 rfl (by simp[Tryz.ntmps228]) ?_;simp[bF,aC,ax,bZ,bT,bP,b_];refine az hf (by simp) (by simp[ay]) (by simp[ay]) rfl ?_;simp;refine ak [0,1,2,3,4,5,6,7,8,9,10,11,12,13,14,15,16] hd (by simp) (by simp) (by simp[ay,bT,bP]) (by simp) ?_;simp[-aD,w1,w2,c2,bT,bP,Tryz.results228];exact⟨[],by simp⟩
theorem JX(s:St)(hF:zZ s.sl.F)(hl:s.ix.length<=1000000)(hp:4*depth s.ix.length+4<=yz s.sl.F):aI Tryz.prog 146 [.obj 6 0] ⟨bF 0 7 s,eR 7,17⟩ (.p (.int 0)) ⟨bF 0 7 s,eR 7,17⟩:=by
 have hfr:=Pb s hF hl hp;have hmk:=wN (.obj 6 0) hfr (by simp[Tb.merge,bF,cu,del]) (by simp[ay,bF,aC,ax,bZ,bT,bP,b_]) (by simp[ay]) (by simp) (by simp) (by simp[AV.to];exact .inl rfl) (by simp) (by simp[oz,bF,aC,ax,bZ,bT,bP,b_]);refine QgQ (rs:=[_]) [1] [] [] Tryz.func146 rfl (by simp[Tryz.ntmps146]) ?_;simp[bF,aC,ax,bZ,bT,bP,b_];refine az hmk (by simp) (by simp[ay,bF,aC,ax,bZ,bT,bP,b_]) (by simp[ay]) rfl ?_;simp[-aD,bF,aC,ax,bZ,bT,bP,b_,Tryz.results146];exact⟨[],by simp⟩
end Go.Av
namespace Go.aW
open Go.Av
open Go.cI (Nd rB l_)
theorem fq.tl{t:Nat}{c:Cs}(h:fq t c)(p:Int):fq t (bA.tl c p).1:=by
 have:=h.ld p;unfold Go.cI.ey.tl;split
 ·split<;>exact this
 ·exact this
end Go.aW
namespace Go.Av
open Go.Proofs Go.aW
open Go.cI (Nd rB l_ Right jS)
theorem aiT:uQ Tryz.prog 276 "Load"=some 428:=by kernel_rfl
theorem F3:uQ Tryz.prog 276 "Save"=some 429:=by kernel_rfl
theorem ahf:uQ Tryz.prog 276 "Drop"=some 427:=by kernel_rfl
@[reducible]def cJ(root:Int):Ob:=⟨371,2,[.kV 276 (.obj 7 0),.p (.int root)]⟩
@[reducible]def pN(u:Nat)(l:List Nat):List Nat:=0::1::2::3::4::5::6::7::u::(u+1)::(u+2)::(u+3)::(u+4)::(u+5)::(u+6)::(u+7)::(u+8)::(u+9)::(u+10)::(u+11)::l
@[reducible]def cL(v u:Nat)(l:List (Nat×Nat)):List (Nat×Nat):=(v,u)::(v+1,u+1)::(v+2,u+2)::(v+3,u+3)::(v+4,u+4)::(v+5,u+5)::(v+6,u+6)::(v+7,u+7)::(v+8,u+8)::(v+9,u+9)::(v+10,u+10)::(v+11,u+11)::l
theorem NA(t:Nat)(c:Cs)(h:fq t c)(p:Int)(hp:jT p):aI Tryz.prog 428 [.obj 7 0,.p (.int p)] ⟨jf.B 0 8 c,jG 8,20⟩ (.agg true [.p (yq (bA.ld c p).2.1),.p (.int (bA.ld c p).2.2)]) ⟨jf.B 0 20 (bA.ld c p).1,jG 20,32⟩:=OQ t c h p hp
theorem C3(b:List UInt8):rB (nD b).1=true\/(nD b).1=l_:=by
 unfold nD;split
 ·rename_i h;left;simp only[u9,Bool.and_eq_true]at h;rw[<-kL];exact h.2
 ·exact .inr rfl
theorem E3(c:Cs)(p:Int):rB (bA.ld c p).2.1=true\/(bA.ld c p).2.1=l_:=by
 show rB (c.ld p).2.1=true\/(c.ld p).2.1=l_;unfold Cs.ld;split
 ·exact .inr rfl
 ·split
  ·split
   ·exact C3 _
   ·exact .inr rfl
  ·exact .inr rfl
theorem Y'{n:Nd}(h:rB n=true\/n=l_):n.ks.length<=4/\n.vs.length<=5:=by
 rcases h with h|rfl
 ·have h:=(jS n).1 h;have h1:=h.len;have h2:=h.form;exact⟨h1,by rw[h2];split<;>omega⟩
 ·simp[l_]
theorem vo(t:Nat)(c:Cs)(h:fq t c)(root p:Int)(hp:jT p):aI Tryz.prog 314 [.obj 20 0,.p (.int p)] ⟨jf.B 0 8 c++[(20,cJ root)],jG 8,21⟩ (.agg true [.p (yq (bA.tl c p).2.1),.p (.int (bA.tl c p).2.2)]) ⟨jf.B 0 21 (bA.tl c p).1++[(20,cJ root)],jG 21,33⟩:=by
 obtain⟨Z,hZ⟩:∃Z,bA.tl c p=Z:=⟨_,rfl⟩;rw[hZ];unfold Go.cI.ey.tl at hZ;have hl:=NA t c h p hp;have yB:=Y' (E3 c p);obtain⟨R,hR⟩:∃R,bA.ld c p=R:=⟨_,rfl⟩;rw[hR]at hl hZ yB;obtain⟨c',n,e⟩:=R;simp only at hl hZ yB;have hr:=qS n.lf n.ks n.vs (by omega) (by omega);rw[kL]at hr;refine QgQ (rs:=[_,_]) [] [] [] Tryz.func314 rfl (by simp[Tryz.ntmps314]) ?_;simp[cJ,aiT];refine kK (pN 8 []) hl (by simp) (by simp) (by simp) (by simp) ?_;by_cases c1:e=0
 ·subst c1;rw[if_pos rfl]at hZ;simp;refine ai hr (by simp) ?_;by_cases c2:rB n=true
  ·rw[if_pos c2]at hZ;rw[<-hZ];simp[-aD,c2,Tryz.results314];exact⟨cL 21 22 [],by simp⟩
  ·rw[if_neg c2]at hZ;rw[<-hZ];have dX:rB n=false:=by simpa using c2
   simp[-aD,dX,l_,Tryz.results314];exact⟨cL 21 22 [],by simp⟩
 ·rw[if_neg c1]at hZ;rw[<-hZ];have jH:(e !=0)=true:=by simpa using c1
  simp[-aD,jH,l_,Tryz.results314];exact⟨cL 21 22 [],by simp⟩
end Go.Av
namespace Go.Av
open Go.Proofs Go.aW
open Go.cI (Nd rB l_ Right jS Step dm Key)
@[reducible]def wJ(x:Step):PC:= .agg false [.bool x.n.lf,.sl (x.n.ks.map PC.str),.sl (x.n.vs.map PC.int),.int x.p,.int x.c]
theorem og(c:Cs)(p:Int):((bA.tl c p).2.2=0/\Right (bA.tl c p).2.1)\/(bA.tl c p).2.1=l_/\(bA.tl c p).2.2≠0:=by
 unfold Go.cI.ey.tl;by_cases h:(bA.ld c p).2.2=0
 ·rw[if_pos h];by_cases h2:rB (bA.ld c p).2.1=true
  ·rw[if_pos h2];exact .inl ⟨rfl,(jS _).1 h2⟩
  ·rw[if_neg h2];right;simp
 ·rw[if_neg h];exact .inr ⟨rfl,h⟩
theorem Ko{t:Nat}(key:Key):∀(f:Nat) {c:Cs} (aG:Int) (out:List Step),fq t c->fq t (bA.way key f c aG out).1
 |0,c,aG,out,h=>by unfold Go.cI.ey.way;split<;>exact h
 |f+1,c,aG,out,h=>by
  unfold Go.cI.ey.way;split
  ·exact h
  ·split
   ·split
    ·exact h.tl aG
    ·exact Ko key f _ _ (h.tl aG)
   ·exact h.tl aG
theorem VQ(t:Nat)(c:Cs)(h:fq t c)(root:Int)(hroot:jT root)(key:Key):aI Tryz.prog 238 [.obj 20 0,.p (.str key)] ⟨jf.B 0 8 c++[(20,cJ root)],jG 8,21⟩ (.agg true [.p (.sl ((bA.way key 40 c root []).2.1.map wJ)),.p (.int (bA.way key 40 c root []).2.2)]) ⟨jf.B 0 21 (bA.way key 40 c root []).1++[(20,cJ root)],jG 21,33⟩:=by
 obtain⟨Z,hZ⟩:∃Z,bA.way key 40 c root []=Z:=⟨_,rfl⟩;rw[hZ];refine QgQ (rs:=[_,_]) [] [(9,[(0,.r 1),(2,.r 1),(6,.w [1]),(7,.s 2 [1])])] [(1,46),(2,47)] Tryz.func238 rfl (by simp[Tryz.ntmps238]) ?_;simp[cJ];refine aN (fun y:Cs×Int×Nat×List Step=>bA.way key y.2.2.1 y.1 y.2.1 y.2.2.2=Z/\y.2.2.1+y.2.2.2.length=40/\jT y.2.1/\fq t y.1) (fun y=>[(0,.obj 20 0),(1,.p (.str key)),(6,.own 33 (y.2.2.2.map wJ)),(7,.p (.int y.2.1))]) (fun y=>⟨jf.B 0 21 y.1++[(20,cJ root)],jG 21++[(33,343,5)],34⟩) (fun y=>y.2.2.1) (c,root,40,[]) ⟨hZ,rfl,hroot,h⟩ _ (wY 6 343 5 [] (.inr ⟨rfl,by simp⟩)) (aE (cL 21 8 [(33,21)]) (by simp)) ?_;rintro⟨c1,aG,f,out⟩ ⟨g1,g2,g3,g4⟩;simp only at g1 g2 g3 g4;by_cases c0:aG=0
 ·subst c0;have e:bA.way key f c1 0 out=(c1,out,0):=by unfold Go.cI.ey.way;cases f<;>rfl
  rw[e]at g1;simp[-aD,<-g1,Tryz.results238];exact⟨cL 21 21 [],by simp⟩
 have OA:(aG !=0)=true:=by simpa using c0
 cases f with
 |zero=>
  have e:bA.way key 0 c1 aG out=(c1,[],10):=by unfold Go.cI.ey.way;rw[if_neg c0]
  rw[e]at g1;have c2:(40:Int)<=(out.length:Int):=by omega
  simp[-aD,OA,c2,<-g1,Tryz.results238];exact⟨cL 21 21 [],by simp⟩
 |succ f=>
  have c2:¬(40:Int)<=(out.length:Int):=by omega
  have hl:=vo t c1 g4 root aG g3;have hcs:=og c1 aG;have hok:=g4.tl aG;unfold Go.cI.ey.way at g1;rw[if_neg c0]at g1;obtain⟨R,hR⟩:∃R,bA.tl c1 aG=R:=⟨_,rfl⟩;rw[hR]at hl hcs g1 hok;obtain⟨c',n,e⟩:=R;simp only at hl hcs g1 hok;simp[OA,c2];refine ak (pN 21 [20]) hl (by simp) (by simp) (by simp) (by simp) ?_;rcases hcs with⟨rfl,d2⟩|⟨rfl,d2⟩
  ·rw[if_pos rfl]at g1;simp;refine bD (Lx n key (by have:=d2.len;omega)) ?_;have gR:=Go.cI.mI n key;have h4:=d2.len;have hfm:=d2.form;by_cases c3:n.lf=true
   ·rw[if_pos c3]at g1;simp[-aD,c3,<-g1,Tryz.results238];exact⟨by omega,by omega,cL 21 34 [],by simp[c3]⟩
   ·have lq:n.lf=false:=by simpa using c3
    rw[if_neg c3]at g1;rw[lq]at hfm;simp only[Bool.false_eq_true,if_false]at hfm;have hci:dm n key<n.vs.length:=by omega
    have oh:=d2.vals n.vs[dm n key] (List.getElem_mem hci);have hgd:n.vs.getD (dm n key) 0=n.vs[dm n key]:=by rw[List.getD_eq_getElem?_getD,List.getElem?_eq_getElem hci];rfl
    rw[hgd]at g1;simp[lq,hci];exact⟨by omega,by omega,c',n.vs[dm n key],f,out++[⟨n,aG,dm n key⟩],⟨g1,by simp;omega,⟨by have:=oh.1;omega,by have:=oh.2;omega⟩,hok⟩,by omega,aE (cL 21 34 [(33,48)]) (by simp[lq])⟩
  ·rw[if_neg d2]at g1;have d3':(e !=0)=true:=by simpa using d2
   simp[-aD,d3',<-g1,Tryz.results238];exact⟨cL 21 34 [],by simp⟩
end Go.Av
namespace Go.aW
open Go.Av
open Go.cI (Nd rB l_ gv jX qj Key)
theorem fq.Ws{t:Nat}{c:Cs}(h:fq t c)(n:Nd):fq (t+8) (bA.sv c n).1:=h.sv n
theorem fq.put{t:Nat}{c:Cs}(h:fq t c)(n:Nd):fq (t+16) (bA.put c n).1:=by
 unfold Go.cI.ey.put;split
 ·exact(h.Ws n).up (by omega)
 ·split
  ·exact((h.Ws (gv n)).Ws (jX n)).up (by omega)
  ·exact(h.Ws (gv n)).up (by omega)
theorem En{t:Nat}{c:Cs}(h:fq t c):∀(l:List Int),fq (t+l.length) (bA.gV c l):=by
 intro l
 induction l generalizing t c with
 |nil=>exact h
 |cons p l ih=>
  have:=ih (h.dr p);rw[show t+(p::l).length=t+1+l.length by simp;omega];exact this
end Go.aW
namespace Go.Av
open Go.Proofs Go.aW
open Go.cI (Nd rB l_ Right jS Step dm Key gv jX qj)
@[reducible]def mW(q:Nat)(old:List Int):Ob:=⟨339,2,[.obj 20 0,.own q (old.map PC.int)]⟩
theorem rT(t:Nat)(c:Cs)(h:fq t c)(ht:t<=30000)(n:Nd)(hn:lW n):aI Tryz.prog 429 [.obj 7 0,.p (yq n)] ⟨jf.B 0 8 c,jG 8,20⟩ (.agg true [.p (.int (bA.sv c n).2.1),.p (.int (bA.sv c n).2.2)]) ⟨jf.B 0 20 (bA.sv c n).1,jG 20,32⟩:=QZ t c h ht n (by have:=hn.ks;omega) (by have:=hn.vs;omega)
theorem LZ(t:Nat)(c:Cs)(h:fq t c)(ht:t<=30000)(p:Int):aI Tryz.prog 427 [.obj 7 0,.p (.int p)] ⟨jf.B 0 8 c,jG 8,20⟩ (.agg true []) ⟨jf.B 0 20 (bA.dr c p),jG 20,32⟩:=Ph t c h ht p
theorem wM(t:Nat)(c:Cs)(h:fq t c)(ht:t+8<=30000)(root:Int)(old:List Int)(n:Nd)(hn:lW n):aI Tryz.prog 241 [.obj 21 0,.p (yq n)] ⟨jf.B 0 8 c++[(20,cJ root),(21,mW 22 old)],jG 8++[(22,3,1)],23⟩ (.agg true [.p (.sl ((bA.put c n).2.1.map PC.int)),.p (.str (bA.put c n).2.2.1),.p (.int (bA.put c n).2.2.2)]) ⟨jf.B 0 23 (bA.put c n).1++[(20,cJ root),(21,mW 22 old)],jG 23++[(22,3,1)],35⟩:=by
 obtain⟨Z,hZ⟩:∃Z,bA.put c n=Z:=⟨_,rfl⟩;rw[hZ];unfold Go.cI.ey.put at hZ;refine QgQ (rs:=[_,_,_]) [] [(2,[(3,.r 1),(6,.r 2),(8,.w [1,2])]),(5,[(3,.r 1),(6,.r 2),(7,.r 3),(8,.w [1,2,3,4])]),(8,[(3,.r 1),(6,.r 2),(7,.r 4),(8,.w [1,2,3,4])])] [(1,21),(2,20),(3,23),(4,24)] Tryz.func241 rfl (by simp[Tryz.ntmps241]) ?_;by_cases c1:n.ks.length<=4
 ·rw[if_pos c1]at hZ;have hs:=rT t c h (by omega) n hn;obtain⟨R,hR⟩:∃R,bA.sv c n=R:=⟨_,rfl⟩;rw[hR]at hs hZ;have jH:(n.ks.length:Int)<=4:=by omega
  simp[cJ,mW,jH,F3];refine kK (pN 8 []) hs (by simp) (by simp) (by simp) (by simp) ?_;rw[<-hZ];simp[-aD,Tryz.results241];exact⟨[],by simp⟩
 ·rw[if_neg c1]at hZ;have jH:¬(n.ks.length:Int)<=4:=by omega
  have hs:=rT t c h (by omega) (gv n) (PV hn);have hok:=h.Ws (gv n);have hsp:=splitB n hn (by omega);obtain⟨R,hR⟩:∃R,bA.sv c (gv n)=R:=⟨_,rfl⟩;rw[hR]at hs hZ hok;obtain⟨c',p,e⟩:=R;simp only at hs hZ hok;simp[cJ,mW,jH];refine ai hsp (by simp) ?_;simp[F3];refine kK (pN 8 []) hs (by simp) (by simp) (by simp) (by simp) ?_;by_cases c2:e=0
  ·subst c2;rw[if_pos rfl]at hZ;have uw:=rT (t+8) c' hok ht (jX n) (PW hn);obtain⟨R2,y7⟩:∃R2,bA.sv c' (jX n)=R2:=⟨_,rfl⟩;rw[y7]at uw hZ;obtain⟨c'',p2,e2⟩:=R2;simp only at uw hZ;simp[F3];refine kK (pN 25 []) uw (by simp) (by simp) (by simp) (by simp) ?_;rw[<-hZ];simp[-aD,Tryz.results241];exact⟨cL 23 37 [],by simp⟩
  ·rw[if_neg c2]at hZ;have dX:(e !=0)=true:=by simpa using c2
   rw[<-hZ];simp[-aD,dX,Tryz.results241];exact⟨cL 23 25 [],by simp⟩
theorem F4(t:Nat)(c:Cs)(h:fq t c)(root:Int)(old:List Int)(yt:old.length<=1000)(ht:t+1000<=30000)(p:Int):aI Tryz.prog 328 [.obj 21 0,.p (.int p)] ⟨jf.B 0 8 c++[(20,cJ root),(21,mW 22 old)],jG 8++[(22,3,1)],23⟩ (.agg true []) ⟨jf.B 0 23 (bA.gV c old)++[(20,cJ p),(21,mW 22 old)],jG 23++[(22,3,1)],35⟩:=by
 refine QgQ (rs:=[]) [] [] [] Tryz.func328 rfl (by simp[Tryz.ntmps328]) ?_;simp[cJ,mW];refine aN (fun k:Nat=>k<=old.length) (fun k=>[(0,.obj 21 0),(16,.own 22 (old.map PC.int)),(17,.p (.int old.length)),(18,.p (.int k))]) (fun k=>⟨jf.B 0 23 (bA.gV c (old.take k))++[(20,cJ p),(21,mW 22 old)],jG 23++[(22,3,1)],35⟩) (fun k=>old.length-k) 0 (by simp) _ (AS.le_refl _ _) (aE (cL 23 8 []) (by simp[Go.cI.ey.gV])) ?_;intro k hk;by_cases ck:k<old.length
 ·have wk:IntKind.i64.wrap ((k:Int)+1)=((k+1:Nat):Int):=by rw[af (by omega) (by omega)];rfl
  have hd:=En h (old.take k);have Dw:=LZ _ _ hd (by simp;omega) old[k];have hsn:bA.dr (bA.gV c (old.take k)) old[k]=bA.gV c (old.take (k+1)):=by unfold Go.cI.ey.gV;rw[List.take_succ_eq_append_getElem ck,List.foldl_append];rfl
  rw[hsn]at Dw;simp[ck,cJ,mW,ahf];refine kK (pN 23 []) Dw (by simp) (by simp) (by simp) (by simp) ?_;simp[wk];exact⟨k+1,by omega,by omega,aE (cL 23 35 []) (by simp)⟩
 ·obtain rfl:k=old.length:=by omega
  simp[-aD,cJ,mW,Tryz.results328];exact⟨cL 23 23 [],by simp⟩
end Go.Av
namespace Go.aW
open Go.Av
open Go.cI (Nd rB l_ gv jX qj Key Bp Ad fV ke Step)
theorem Eh{t:Nat}{c:Cs}(h:fq t c)(n:Nd):jT (bA.sv c n).2.1:=by
 show jT (c.sv n).2.1;unfold Cs.sv;split
 ·split
  ·obtain⟨m1,m2,m3,m4,m5⟩:=h.s.sl.take 1;have:=h.s.sl.n;exact⟨by simp only;omega,by simp only;omega⟩
  ·simp[jT]
 ·simp[jT]
theorem Lt{t:Nat}{c:Cs}(h:fq t c){n:Nd}(hn:lW n):(bA.put c n).2.1.length<=2/\((bA.put c n).2.2.2=0->1<=(bA.put c n).2.1.length)/\(∀p∈(bA.put c n).2.1,jT p)/\(bA.put c n).2.2.1.length<=1000000:=by
 unfold Go.cI.ey.put;have h1:=Eh h n;have h2:=Eh h (gv n);have h3:=Eh (h.Ws (gv n)) (jX n);split
 ·exact⟨by simp,by simp,by simpa using h1,by simp⟩
 ·split
  ·refine⟨by simp,by simp,by simp[h2,h3],?_⟩;simp only[qj];split
   ·unfold Go.cI.mF;rcases Nat.lt_or_ge (n.ks.length/2) n.ks.length with h4|h4
    ·rw[List.getD_eq_getElem?_getD,List.getElem?_eq_getElem h4];exact hn.keys _ (List.getElem_mem h4)
    ·rw[List.getD_eq_getElem?_getD,List.getElem?_eq_none h4];simp
   ·simp
  ·rename_i h4;exact⟨by simp,fun h=>absurd h h4,by simp,by simp⟩
structure Ua(t b:Nat)(u:Bp Cs):Prop where
 s:fq t u.s
 old:u.old.length<=b
 pg:u.pg.length<=2/\(u.e=0->1<=u.pg.length)
 pgb:∀p∈u.pg,jT p
 key:u.key.length<=1000000
theorem AG{x:Step}{u:Bp Cs}{t b:Nat}(hx:HQ x)(hu:Ua t b u):lW (Ad x u.pg u.key):=by
 have h:=jK hx.rt;have h1:=hx.rt.len;have h2:=hx.rt.form;unfold Ad;split
 ·exact vu h hu.key (by omega) (by rw[h2];split<;>omega) (by have:=hu.pg;omega)
 ·exact⟨h.ks,by simp[ke];exact h.vs,h.keys⟩
theorem PU{x:Step}{u:Bp Cs}{t b:Nat}(hx:HQ x)(hu:Ua t b u):Ua (t+16) (b+1) (bA.qM x u):=by
 unfold Go.cI.ey.qM;split
 ·have hn:=AG hx hu;obtain⟨p1,p2,p3,p4⟩:=Lt hu.s hn;exact⟨hu.s.put _,by simp;have:=hu.old;omega,⟨p1,p2⟩,p3,p4⟩
 ·exact⟨hu.s.up (by omega),by have:=hu.old;omega,hu.pg,hu.pgb,hu.key⟩
theorem zi{t b:Nat}{u:Bp Cs}(hu:Ua t b u):∀(l:List Step),(∀x∈l,HQ x)->Ua (t+16*l.length) (b+l.length) (l.foldr bA.qM u)
 |[],_=>by simpa using hu
 |x::l,h=>by
  have:=PU (h x (by simp)) (zi hu l (fun y hy=>h y (by simp[hy])));simpa[Nat.mul_add,Nat.add_assoc]using this
theorem jo{u:Bp Cs}(h:u.e≠0):∀(l:List Step),l.foldr bA.qM u=u
 |[]=>rfl
 |x::l=>by simp only[List.foldr_cons,jo h l];unfold Go.cI.ey.qM;rw[if_neg h]
end Go.aW
namespace Go.Av
open Go.Proofs Go.aW
open Go.cI (Nd rB l_ Right jS Step dm Key gv jX qj Bp Ad fV ke)
theorem Kr(t b:Nat)(root:Int)(u0:Bp Cs)(h0:Ua t b u0)(he:u0.e=0)(l:List Step)(hl:∀x∈l,HQ x)(amC:l.length<=100)(hb:b<=100)(ht:t<=25000):aI Tryz.prog 243 [.obj 21 0,.p (.sl (l.map wJ)),.p (.sl (u0.pg.map PC.int)),.p (.str u0.key)] ⟨jf.B 0 8 u0.s++[(20,cJ root),(21,mW 22 u0.old)],jG 8++[(22,3,1)],23⟩ (.p (.int (bA.fW root 0 false (l.foldr bA.qM u0)).e)) ⟨jf.B 0 23 (bA.fW root 0 false (l.foldr bA.qM u0)).s++[(20,cJ (bA.fW root 0 false (l.foldr bA.qM u0)).root),(21,mW 35 (l.foldr bA.qM u0).old)],jG 23++[(35,3,1)],36⟩:=by
 obtain⟨Z,hZ⟩:∃Z,bA.fW root 0 false (l.foldr bA.qM u0)=Z:=⟨_,rfl⟩;obtain⟨ol,Ei⟩:∃ol,(l.foldr bA.qM u0).old=ol:=⟨_,rfl⟩;rw[hZ,Ei];refine QgQ (rs:=[_]) [] [(5,[(4,.r 1),(6,.r 2),(8,.f [1,2]),(11,.s 1 [2])]),(9,[(0,.r 3),(2,.r 2),(7,.w [])])] [(1,21),(2,36),(3,38)] Tryz.func243 rfl (by simp[Tryz.ntmps243]) ?_;have wl:IntKind.i64.wrap ((l.length:Int)-1)=(l.length:Int)-1:=af (by omega) (by omega);simp[cJ,mW,wl];refine aN (fun y:Nat×Bp Cs=>y.1<=l.length/\y.2=(l.drop y.1).foldr bA.qM u0/\y.2.e=0) (fun y=>[(0,.obj 21 0),(1,.p (.sl (l.map wJ))),(2,.p (.sl (y.2.pg.map PC.int))),(3,.p (.str y.2.key)),(9,.p (.int ((y.1:Int)-1)))]) (fun y=>⟨jf.B 0 23 y.2.s++[(20,cJ root),(21,mW 35 y.2.old)],jG 23++[(35,3,1)],36⟩) (fun y=>y.1) (l.length,u0) ⟨by simp,by simp,he⟩ _ (AS.le_refl _ _) (aE (cL 23 8 [(35,22)]) (by simp)) ?_;rintro⟨m,u⟩ ⟨g1,g2,g3⟩;simp only at g1 g2 g3;have hu:Ua (t+16*(l.length-m)) (b+(l.length-m)) u:=by
  rw[g2];have:=zi h0 (l.drop m) (fun x hx=>hl x (List.mem_of_mem_drop hx));simpa using this
 cases m with
 |zero=>
  have e:l.foldr bA.qM u0=u:=by rw[g2];rfl
  rw[e]at hZ Ei;subst Ei;have yt:=hu.old;have hpl:=hu.pg.1;have hp0:0<u.pg.length:=hu.pg.2 g3;unfold Go.cI.ey.fW at hZ;rw[if_pos g3]at hZ;by_cases c2:u.pg.length=2
  ·rw[if_pos c2]at hZ;have dX:((u.pg.length:Int)==2)=true:=by simp;omega
   have yB:lW ⟨false,[u.key],u.pg⟩:=⟨by simp,by simp;omega,by simpa using hu.key⟩;have hs:=rT _ u.s hu.s (by omega) ⟨false,[u.key],u.pg⟩ yB;have Lu:=hu.s.Ws ⟨false,[u.key],u.pg⟩;obtain⟨R,hR⟩:∃R,bA.sv u.s ⟨false,[u.key],u.pg⟩=R:=⟨_,rfl⟩;rw[hR]at hs hZ Lu;obtain⟨S1,p1,e1⟩:=R;simp only at hs hZ Lu;simp[dX,cJ,mW,F3];refine kK (pN 23 []) hs (by simp) (by simp) (by simp) (by simp) ?_;by_cases c3:e1=0
   ·subst c3;rw[if_pos rfl]at hZ;have hd:=F4 _ S1 Lu root u.old (by omega) (by omega) p1;simp;refine ak (pN 36 [20,21,35]) hd (by simp) (by simp) (by simp) (by simp) ?_;rw[<-hZ];simp[-aD,Tryz.results243];exact⟨cL 23 48 [],by simp⟩
   ·rw[if_neg c3]at hZ;have lq:(e1 !=0)=true:=by simpa using c3
    rw[<-hZ];simp[-aD,lq,Tryz.results243];exact⟨cL 23 36 [],by simp⟩
  ·rw[if_neg c2]at hZ;have dX:((u.pg.length:Int)==2)=false:=by simp;omega
   have hgd:u.pg.getD 0 0=u.pg[0]:=by rw[List.getD_eq_getElem?_getD,List.getElem?_eq_getElem hp0];rfl
   rw[hgd]at hZ;have hd:=F4 _ u.s hu.s root u.old (by omega) (by omega) u.pg[0];simp[dX,hp0,cJ,mW];refine ak (pN 23 [20,21,35]) hd (by simp) (by simp) (by simp) (by simp) ?_;rw[<-hZ];simp[-aD,Tryz.results243];exact⟨cL 23 36 [],by simp⟩
 |succ m=>
 have hm:m<l.length:=by omega
 obtain⟨x,Lv⟩:∃x,x=l[m]:=⟨_,rfl⟩;have hx:HQ x:=by rw[Lv];exact hl _ (List.getElem_mem hm)
 have DA:(l.drop m).foldr bA.qM u0=bA.qM x u:=by rw[List.drop_eq_getElem_cons hm,List.foldr_cons,<-g2,Lv]
 have hall:l.foldr bA.qM u0=(l.take m).foldr bA.qM (bA.qM x u):=by
  conv=>lhs;rw[<-List.take_append_drop m l]
  rw[List.foldr_append,DA]
 have hp0:0<u.pg.length:=hu.pg.2 g3;have hpl:=hu.pg.1;have yt:=hu.old;have hx4:=hx.rt.len;have hxm:l[m]=x:=Lv.symm;have wm2:IntKind.i64.wrap ((m:Int)-1)=(m:Int)-1:=af (by omega) (by omega);have hcv:x.c<x.n.vs.length:=by have h1:=hx.rt.form;have h2:=hx.c;rw[hx.inn]at h1;simp at h1;omega
 by_cases c2:u.pg.length=2
 ·have dX:((u.pg.length:Int)==2)=true:=by simp;omega
  have BO:Ad x u.pg u.key=fV x.n x.c u.key u.pg:=by unfold Ad;rw[if_pos c2]
  have yB:=AG hx hu;rw[BO]at yB;simp[hm,hxm,dX,cJ,mW];refine⟨by omega,by omega,?_⟩;refine ai (O' x.n x.c u.key u.pg (jK hx.rt) (by omega) (wL hx.rt) hx.c) (by simp) ?_;simp;have hF:bA.qM x u=⟨(bA.put u.s (fV x.n x.c u.key u.pg)).1,u.old++[x.p],(bA.put u.s (fV x.n x.c u.key u.pg)).2.1,(bA.put u.s (fV x.n x.c u.key u.pg)).2.2.1,(bA.put u.s (fV x.n x.c u.key u.pg)).2.2.2⟩:=by unfold Go.cI.ey.qM;rw[if_pos g3,BO]
  rw[hF]at DA hall;have vv:=wM _ u.s hu.s (by omega) root (u.old++[x.p]) (fV x.n x.c u.key u.pg) yB;obtain⟨R,hR⟩:∃R,bA.put u.s (fV x.n x.c u.key u.pg)=R:=⟨_,rfl⟩;rw[hR]at vv DA hall;obtain⟨S',BN,key',e'⟩:=R;simp only at vv DA hall;refine ak (pN 23 [20,21,37]) vv (by simp) (by simp) (by simp) (by simp) ?_;by_cases c3:e'=0
  ·subst c3;simp;exact⟨m,_,⟨by omega,DA.symm,rfl⟩,by omega,aE (cL 23 39 [(35,37)]) (by simp[wm2])⟩
  ·have lq:(e' !=0)=true:=by simpa using c3
   have hres:l.foldr bA.qM u0=⟨S',u.old++[x.p],BN,key',e'⟩:=by rw[hall,jo c3]
   rw[hres]at hZ Ei;unfold Go.cI.ey.fW at hZ;rw[if_neg c3]at hZ;rw[<-hZ,<-Ei];simp[-aD,lq,Tryz.results243];exact⟨cL 23 39 [(35,37)],by simp⟩
 ·have dX:((u.pg.length:Int)==2)=false:=by simp;omega
  have BO:Ad x u.pg u.key=ke x.n x.c u.pg[0]:=by unfold Ad;rw[if_neg c2,List.getD_eq_getElem?_getD,List.getElem?_eq_getElem hp0];rfl
  have yB:=AG hx hu;rw[BO]at yB;simp[hm,hxm,dX,hp0,cJ,mW];refine⟨by omega,by omega,?_⟩;refine bD (Wt x.n x.c u.pg[0] (jK hx.rt) hcv) ?_;simp;have hF:bA.qM x u=⟨(bA.put u.s (ke x.n x.c u.pg[0])).1,u.old++[x.p],(bA.put u.s (ke x.n x.c u.pg[0])).2.1,(bA.put u.s (ke x.n x.c u.pg[0])).2.2.1,(bA.put u.s (ke x.n x.c u.pg[0])).2.2.2⟩:=by unfold Go.cI.ey.qM;rw[if_pos g3,BO]
  rw[hF]at DA hall;have vv:=wM _ u.s hu.s (by omega) root (u.old++[x.p]) (ke x.n x.c u.pg[0]) yB;obtain⟨R,hR⟩:∃R,bA.put u.s (ke x.n x.c u.pg[0])=R:=⟨_,rfl⟩;rw[hR]at vv DA hall;obtain⟨S',BN,key',e'⟩:=R;simp only at vv DA hall;refine ak (pN 23 [20,21,37]) vv (by simp) (by simp) (by simp) (by simp) ?_;by_cases c3:e'=0
  ·subst c3;simp;exact⟨m,_,⟨by omega,DA.symm,rfl⟩,by omega,aE (cL 23 39 [(35,37)]) (by simp[wm2])⟩
  ·have lq:(e' !=0)=true:=by simpa using c3
   have hres:l.foldr bA.qM u0=⟨S',u.old++[x.p],BN,key',e'⟩:=by rw[hall,jo c3]
   rw[hres]at hZ Ei;unfold Go.cI.ey.fW at hZ;rw[if_neg c3]at hZ;rw[<-hZ,<-Ei];simp[-aD,lq,Tryz.results243];exact⟨cL 23 39 [(35,37)],by simp⟩
end Go.Av
namespace Go.aW
open Go.Av
open Go.cI (Nd rB l_ gv jX qj Key Bp Ad fV ke Step Right dm mI iG)
def StW(key:Key)(x:Step):Prop:=Right x.n/\x.c=dm x.n key/\jT x.p
theorem yg(key:Key):∀(f:Nat) (c:Cs) (aG:Int) (out:List Step),(∀x∈out,StW key x/\x.n.lf=false)->jT aG->∀l x,(bA.way key f c aG out).2.1=l++[x]->(∀y∈l,y.n.lf=false)/\∀y∈l++[x],StW key y
 |0,c,aG,out,h,_,l,x,e=>by
  unfold Go.cI.ey.way at e;split at e
  ·simp only at e;rw[e]at h;exact⟨fun y hy=>(h y (by simp[hy])).2,fun y hy=>(h y hy).1⟩
  ·simp at e
 |f+1,c,aG,out,h,hp,l,x,e=>by
  unfold Go.cI.ey.way at e;split at e
  ·simp only at e;rw[e]at h;exact⟨fun y hy=>(h y (by simp[hy])).2,fun y hy=>(h y hy).1⟩
  ·split at e
   ·rename_i h2;have h3:Right (bA.tl c aG).2.1:=by
     rcases Go.Av.og c aG with h3|h3
     ·exact h3.2
     ·exact absurd h2 h3.2
    split at e
    ·simp only at e;have e1:=List.append_inj_left' e (by simp);have e2:=List.append_inj_right' e (by simp);subst e1;injection e2 with e2;refine⟨fun y hy=>(h y hy).2,fun y hy=>?_⟩;rcases List.mem_append.1 hy with hy|hy
     ·exact(h y hy).1
     ·rw[List.mem_singleton]at hy;subst hy;rw[<-e2];exact⟨h3,rfl,hp⟩
    ·rename_i h4;have Vx:(bA.tl c aG).2.1.lf=false:=Bool.eq_false_iff.2 h4;refine yg key f _ _ _ (fun y hy=>?_) ?_ l x e
     ·rcases List.mem_append.1 hy with hy|hy
      ·exact h y hy
      ·rw[List.mem_singleton]at hy;subst hy;exact⟨⟨h3,rfl,hp⟩,Vx⟩
     ·rcases Nat.lt_or_ge (dm (bA.tl c aG).2.1 key) (bA.tl c aG).2.1.vs.length with h5|h5
      ·have:=h3.vals _ (List.getElem_mem h5);rw[List.getD_eq_getElem?_getD,List.getElem?_eq_getElem h5];exact⟨by have:=this.1;simp only[Option.getD_some];omega,by have:=this.2;simp only[Option.getD_some];omega⟩
      ·rw[List.getD_eq_getElem?_getD,List.getElem?_eq_none h5];exact⟨by simp,by simp⟩
   ·simp at e
theorem C5(key:Key):∀(f:Nat) (c:Cs) (aG:Int) (out:List Step),(bA.way key f c aG out).2.1.length<=out.length+f
 |0,c,aG,out=>by unfold Go.cI.ey.way;split<;>simp
 |f+1,c,aG,out=>by
  unfold Go.cI.ey.way;split
  ·simp only;omega
  ·split
   ·split
    ·simp only[List.length_append,List.length_cons,List.length_nil];omega
    ·have:=C5 key f (bA.tl c aG).1 ((bA.tl c aG).2.1.vs.getD (dm (bA.tl c aG).2.1 key) 0) (out++[⟨(bA.tl c aG).2.1,aG,dm (bA.tl c aG).2.1 key⟩]);simp only[List.length_append,List.length_cons,List.length_nil]at this;omega
   ·simp
theorem O_{c:Cs}{key:Key}{root:Int}(hr:jT root){l:List Step}{x:Step}(e:(bA.way key 40 c root []).2.1=l++[x]):(∀y∈l,HQ y)/\Right x.n/\jT x.p/\l.length<=40:=by
 obtain⟨h1,h2⟩:=yg key 40 c root [] (by simp) hr l x e;have h4:=C5 key 40 c root [];rw[e]at h4;refine⟨fun y hy=>?_,(h2 x (by simp)).1,(h2 x (by simp)).2.2,by simp at h4;omega⟩;obtain⟨a,b,d⟩:=h2 y (by simp[hy]);exact⟨a,h1 y hy,by rw[b];exact mI _ _,d⟩
theorem fN(root was:Int)(had:Bool)(u:Bp Cs):(bA.fW root was had u).s=(bA.fW root 0 false u).s/\(bA.fW root was had u).root=(bA.fW root 0 false u).root/\(bA.fW root was had u).e=(bA.fW root 0 false u).e/\(bA.fW root was had u).was=(if(bA.fW root 0 false u).e=0 then was else 0)/\(bA.fW root was had u).had=(if(bA.fW root 0 false u).e=0 then had else false):=by
 unfold Go.cI.ey.fW;by_cases c1:u.e=0
 ·simp only[if_pos c1];by_cases c2:u.pg.length=2
  ·simp only[if_pos c2];by_cases c3:(bA.sv u.s ⟨false,[u.key],u.pg⟩).2.2=0
   ·simp[c3]
   ·simp[c3]
  ·simp[c2]
 ·simp[c1]
theorem wI{t:Nat}{c:Cs}(hS:fq t c){n:Nd}(old:List Int){key:Key}{v:Int}(hn:lW (iG n key v))(ho:old.length<=1):Ua (t+16) 1 (bA.kT c n old key v):=by
 have h:=Lt hS hn;exact⟨hS.put _,by simp only[Go.cI.ey.kT];omega,⟨h.1,h.2.1⟩,h.2.2.1,h.2.2.2⟩
end Go.aW
namespace Go.Av
open Go.Proofs Go.aW
open Go.cI (Nd rB l_ Right jS Step dm Key gv jX qj Bp Ad fV ke lV Dx bh Ae bY rq tg iG jY DX nG ru DY)
theorem VR{n:Nd}{i:Nat}(h:Right n)(hi:i<n.ks.length):Dx (lV n i)=true/\lW (lV n i)/\(lV n i).ks.length+1=n.ks.length:=by
 have h1:=h.form;have h2:=jK h;have hb:bh n=if n.lf then 0 else 1:=rfl
 refine⟨?_,⟨by have:=h2.ks;simp[lV];omega,by have:=h2.vs;simp[lV];omega,fun k hk=>h2.keys k (Ae hk)⟩,by simp[lV];omega⟩;unfold Dx;simp only[lV,List.length_append,List.length_take,List.length_drop,h1,hb,beq_iff_eq];split<;>omega
theorem CV{P:Program}{f:FuncId}{xs:List AV}{r:AV}{tb aO:Tb}(id j:Nat)(el sz:Nat)(ob:Ob)(hl:lk id tb.bx=some ob)(hj:ob.xs[j]?=some (.p .nil))(hk:aI P f xs ((tb.bX el sz).aQ id {ob with xs:=ob.xs.set j (.own tb.nx [])}) r aO):aI P f xs tb r aO:=by
 refine⟨hk.1,fun g w vs F h1 hvs=>?_⟩;obtain⟨b,c,f1,fr,f0⟩:=h1.boxes id ob hl;have xA:ob.xs≠[]:=fun hz=>by rw[hz]at hj;simp at hj
 have gH:0<c:=Nat.pos_of_ne_zero fun hz=>xA (f0 hz);obtain⟨cur,f2,f3,⟨tt,fz,f4,fo⟩,f5,f6,f7,f8,f9⟩:=fr gH;obtain⟨u,hu,hr⟩:=f8.get hj;have hrp:=bf hr;cases hrp;have hle:=h1.vP (.slice none 0 0);have gD:=h1.qb el sz none 0;have hl':lk id (tb.bX el sz).bx=some ob:=hl;have sw:∀{vs:List Value} {ys:List AV} (j:Nat) (v:Value),vs[j]?=some v->aL (g.cX tb.nx (.slice none 0 0)) vs ys->aZ (g.cX tb.nx (.slice none 0 0)) v (.own tb.nx [])->aL (g.cX tb.nx (.slice none 0 0)) vs (ys.set j (.own tb.nx [])):=by
  intro vs ys
  induction ys generalizing vs with
  |nil=>intro j v _ hs _;simpa using hs
  |cons y ys ih=>
   intro j v hv hs hn;cases hs with
   |cons h hs=>
    cases j with
    |zero=>simp at hv;subst hv;exact .cons hn hs
    |succ j=>simp at hv;exact .cons h (ih j v hv hs hn)
 have key:=gD.aQ (o':={ob with xs:=ob.xs.set j (.own tb.nx [])}) (cur':=cur) hl' (show(g.cX tb.nx (.slice none 0 0)).ob id=some (b,c)from f1) gH f4 rfl rfl rfl (by simpa using f7) (by
  simp only[List.length_set];exact sw j _ hu (f8.mono hle) (.own (by simp[G.cX]) .dg)) (by simpa using f9)
 have hw:w.setRow b cur=w:=setRow_self f4;rw[hw]at key;refine(hk.2 _ w vs F key (hvs.mono hle)).mono ?_;rintro e w' ⟨v,g',rfl,h2,h3,h4⟩;exact⟨v,g',rfl,hle.trans h2,h3,h4⟩
@[reducible]def aiU:Ob:=⟨339,2,[.obj 20 0,.p .nil]⟩
theorem Pa(t:Nat)(c:Cs)(h:fq t c)(ht:t+8<=30000)(root:Int)(n:Nd)(hn:lW n):aI Tryz.prog 241 [.obj 21 0,.p (yq n)] ⟨jf.B 0 8 c++[(20,cJ root),(21,aiU)],jG 8,22⟩ (.agg true [.p (.sl ((bA.put c n).2.1.map PC.int)),.p (.str (bA.put c n).2.2.1),.p (.int (bA.put c n).2.2.2)]) ⟨jf.B 0 23 (bA.put c n).1++[(20,cJ root),(21,mW 22 [])],jG 23++[(22,3,1)],35⟩:=CV 21 1 3 1 aiU (by simp) rfl (zU (wM t c h ht root [] n hn) (by simp[Tb.bX,Tb.aQ]) (by simp[Tb.bX,Tb.aQ]) rfl)
theorem QK(c:Cs)(root:Int):aI Tryz.prog 235 [.obj 20 0] ⟨jf.B 0 8 c++[(20,cJ root)],jG 8,21⟩ (.p (.int root)) ⟨jf.B 0 8 c++[(20,cJ root)],jG 8,21⟩:=by
 refine QgQ (rs:=[_]) [] [] [] Tryz.func235 rfl (by simp[Tryz.ntmps235]) ?_;simp[-aD,cJ,Tryz.results235];exact⟨[],by simp⟩
@[simp]theorem Za{t:TypeId}{x:AV}:(AV.kV t x).cR=some [.kV t x]:=(rfl)
theorem Lb(root:Int):aI Tryz.prog 169 [.kV 276 (.obj 0 0),.p (.int root)] ⟨[],[],1⟩ (.obj 1 0) ⟨[(1,⟨371,2,[.kV 276 (.obj 0 0),.p (.int root)]⟩)],[],2⟩:=by
 refine QgQ (rs:=[_]) [8] [] [] Tryz.func169 rfl (by simp[Tryz.ntmps169]) ?_;simp[-aD,Tryz.results169];exact⟨[],by simp⟩
end Go.Av
