/- DiskSizes, part 17: what the functions compute, and the plain law of that; no condition. -/
import Derived.Test.YtgkdpbambfgahaaGreatDoorWap
set_option linter.all false
set_option maxRecDepth 100000
set_option maxHeartbeats 64000000
namespace Go.aW
open Go.Av
def eG.h1(e:eG):List UInt8:=69::(aF e.st.st 2++aF e.st.mi 1)
def eG.h2(e:eG):List UInt8:=e.h1++([e.asked,e.got,e.order].flatMap fun n=>aF n 8)
def eG.h3(e:eG):List UInt8:=e.h2++aF e.size 4++aF e.sum 4++a_ [e.uri,e.var,e.st.r]++aF e.names.length 1++a_ e.names++aF e.fields.length 1
def eG.h4(e:eG):List UInt8:=e.h3++(e.fields.flatMap fun f=>a_ [f.1,f.2])++aF e.body.length 1
def eG.pack(e:eG):List UInt8:=e.h4++(e.body.flatMap fun x=>aF x.1 4++aF x.2 4)
def eG.wP(e:eG):List UInt8×Int:=if e.right=true then(if 8000<e.pack.length then([],12)else(e.pack,0))else([],10)
end Go.aW
namespace Go.Av
open Go.Proofs Go.aW
theorem KG(e:eG)(h:e.Ok)(hr:e.right=true)(hb:e.pack.length<=1000000000):aI Tryz.prog 229 [.p (dY e)] ⟨[],[],0⟩ (if 8000<e.pack.length then .agg true [.p .nil,.p (.int 12)]else .agg true [.view 0 0 e.pack.length 1 none,.p (.int 0)]) ⟨[(0,ew e.pack)],[],1⟩:=by
 obtain⟨r1,FJ⟩:∃r1,(if 8000<e.pack.length then AV.p .nil else .view 0 0 e.pack.length 1 none)=r1:=⟨_,rfl⟩;obtain⟨r2,Hq⟩:∃r2,(if 8000<e.pack.length then AV.p (.int 12)else .p (.int 0))=r2:=⟨_,rfl⟩;have hR:(if 8000<e.pack.length then AV.agg true [.p .nil,.p (.int 12)]else .agg true [.view 0 0 e.pack.length 1 none,.p (.int 0)])=wQ [r1,r2]:=by rw[<-FJ,<-Hq];split<;>rfl
 refine iA (rs:=[r1,r2]) [14,16] [] [] Tryz.func229 rfl (by kernel_rfl) (by kernel_rfl) (by simp[Tryz.ntmps229]) hR ?_;refine bS mixed (fun _:Unit=>True) (fun _=>[(1,.p (.ref (dY e)))]) (fun _=>⟨[],[],0⟩) ?_ (fun _ _=>?_)
 ·simp;exact aA (by simp)
 refine bS mixed (fun _:Unit=>True) (fun _=>[(1,.p (.ref (dY e))),(13,.p (.bool false))]) (fun _=>⟨[],[],0⟩) ?_ (fun _ _=>?_)
 ·simp;refine ai (vz e h) (by simp) ?_;simp[hr];exact aA (by simp)
 refine bS mixed (fun _:Unit=>True) (fun _=>[(1,.p (.ref (dY e))),(4,.obj 1 0)]) (fun _=>⟨[(1,⟨408,1,[.view 0 0 1 1 (some 1)]⟩),(0,ew [69])],[],2⟩) ?_ (fun _ _=>?_)
 ·simp;exact aA (by simp[ah])
 refine oA (KH 1 0 (.view 0 0 1 1 (some 1)) (.view 0 0 1 1 none) ⟨408,1,[.view 0 0 1 1 (some 1)]⟩ (by simp[lk]) rfl (by simp)) ?_;have ws:IntKind.i64.wrap (e.sum:Int)=(e.sum:Int):=af (by omega) (by have:=h.sum;omega);have hL2:e.h2.length=4+([e.asked,e.got,e.order].flatMap fun n=>aF n 8).length:=by simp[eG.h2,eG.h1,aY];try omega
 have hL:e.pack.length=e.h4.length+(e.body.flatMap fun x=>aF x.1 4++aF x.2 4).length:=by simp[eG.pack]
 have hL4:e.h4.length=e.h3.length+(e.fields.flatMap fun f=>a_ [f.1,f.2]).length+1:=by simp[eG.h4,aY];try omega
 have hL3:e.h3.length=e.h2.length+9+(a_ [e.uri,e.var,e.st.r]).length+(a_ e.names).length+1:=by simp[eG.h3,aY];try omega
 refine bS mixed (fun _:Unit=>True) (fun _=>[(1,.p (.ref (dY e))),(4,.obj 1 0)]) (fun _=>⟨[(1,yD 0 ([69]++aF (e.st.st) 2)),(0,ew ([69]++aF (e.st.st) 2))],[],2⟩) ?_ (fun _ _=>?_)
 ·have hN:=dZ ([69]) (by simp only[List.length_cons,List.length_nil]<;>omega) (e.st.st) 2 (by omega);generalize([69]++aF (e.st.st) 2)=X at hN⊢;generalize([69])=Y at hN⊢;simp[Tb.aQ];refine ak [1,0] hN (by simp) (by simp) (by simp[ay]) (by simp) ?_;simp;exact aE [(0,2)] (by simp)
 refine bS mixed (fun _:Unit=>True) (fun _=>[(1,.p (.ref (dY e))),(4,.obj 1 0)]) (fun _=>⟨[(1,yD 0 ([69]++aF (e.st.st) 2++aF (e.st.mi) 1)),(0,ew ([69]++aF (e.st.st) 2++aF (e.st.mi) 1))],[],2⟩) ?_ (fun _ _=>?_)
 ·have hN:=dZ ([69]++aF (e.st.st) 2) (by simp only[List.length_append,List.length_cons,List.length_nil,aY]<;>omega) (e.st.mi) 1 (by omega);generalize([69]++aF (e.st.st) 2++aF (e.st.mi) 1)=X at hN⊢;generalize([69]++aF (e.st.st) 2)=Y at hN⊢;simp;refine ak [1,0] hN (by simp) (by simp) (by simp[ay]) (by simp) ?_;simp;exact aE [(0,2)] (by simp)
 refine bS mixed (fun _:Unit=>True) (fun _=>[(1,.p (.ref (dY e))),(4,.obj 1 0)]) (fun _=>⟨[(1,yD 0 ([69]++aF (e.st.st) 2++aF (e.st.mi) 1++[e.asked,e.got,e.order].flatMap (fun n=>aF n 8))),(0,ew ([69]++aF (e.st.st) 2++aF (e.st.mi) 1++[e.asked,e.got,e.order].flatMap (fun n=>aF n 8)))],[],2⟩) ?_ (fun _ _=>?_)
 ·have GX:([e.asked,e.got,e.order]).length<=1000000000:=by first|exact h.fl|(have:=h.bl;omega)|simp
  have mg:([69]++aF (e.st.st) 2++aF (e.st.mi) 1++[e.asked,e.got,e.order].flatMap (fun n=>aF n 8)).length<=1000000000:=by simp only[List.length_append,List.length_cons,List.length_nil,aY];omega
  generalize([69]++aF (e.st.st) 2++aF (e.st.mi) 1)=Y at mg⊢;obtain⟨l,KI⟩:∃l,l=([e.asked,e.got,e.order]):=⟨_,rfl⟩;rw[<-KI]at GX mg;simp;refine aN (fun k:Nat=>k<=l.length) (fun k=>[(1,.p (.ref (dY e))),(4,.obj 1 0),(35,.p (.sl (l.map PC.int))),(36,.p (.int l.length)),(37,.p (.int k))]) (fun k=>⟨[(1,yD 0 (Y++(l.take k).flatMap (fun n=>aF n 8))),(0,ew (Y++(l.take k).flatMap (fun n=>aF n 8)))],[],2⟩) (fun k=>l.length-k) 0 (by simp) _ (AS.le_refl _ _) (aA (by simp[KI])) ?_;intro k hk;have hsp:l.flatMap (fun n=>aF n 8)=(l.take k).flatMap (fun n=>aF n 8)++(l.drop k).flatMap (fun n=>aF n 8):=by rw[<-List.flatMap_append,List.take_append_drop]
  by_cases ck:k<l.length
  ·have wk:IntKind.i64.wrap ((k:Int)+1)=((k+1:Nat):Int):=by rw[af (by omega) (by omega)];rfl
   obtain⟨s,hs⟩:∃s,l[k]=s:=⟨_,rfl⟩;have hts:Y++(l.take (k+1)).flatMap (fun n=>aF n 8)=(Y++(l.take k).flatMap (fun n=>aF n 8))++(fun n=>aF n 8) s:=by rw[List.take_succ_eq_append_getElem ck,hs];simp
   have hbk:(Y++(l.take k).flatMap (fun n=>aF n 8)).length+((fun n=>aF n 8) s).length<=1000000000:=by
    rw[<-List.length_append,<-hts];have KJ:l.flatMap (fun n=>aF n 8)=(l.take (k+1)).flatMap (fun n=>aF n 8)++(l.drop (k+1)).flatMap (fun n=>aF n 8):=by rw[<-List.flatMap_append,List.take_append_drop]
    rw[KJ]at mg;simp only[List.length_append]at mg⊢;omega
   generalize hZ:Y++(l.take (k+1)).flatMap (fun n=>aF n 8)=Z at hts;generalize Y++(l.take k).flatMap (fun n=>aF n 8)=X at hts hbk⊢;have hN:=dZ X (by simp[aY]at hbk;omega) s 8 (by omega);simp[ck,hs];refine ak [1,0] hN (by simp) (by simp) (by simp[ay]) (by simp) ?_;have Hr:Z=X++aF s 8:=hts;rw[<-Hr];simp[wk];exact⟨k+1,by omega,by omega,aE [(0,2)] (by simp[hZ])⟩
  ·obtain rfl:k=l.length:=by omega
   rw[List.take_length];simp;exact aA (by simp[KI])
 refine bS mixed (fun _:Unit=>True) (fun _=>[(1,.p (.ref (dY e))),(4,.obj 1 0)]) (fun _=>⟨[(1,yD 0 ([69]++aF (e.st.st) 2++aF (e.st.mi) 1++[e.asked,e.got,e.order].flatMap (fun n=>aF n 8)++aF (e.size) 4)),(0,ew ([69]++aF (e.st.st) 2++aF (e.st.mi) 1++[e.asked,e.got,e.order].flatMap (fun n=>aF n 8)++aF (e.size) 4))],[],2⟩) ?_ (fun _ _=>?_)
 ·have hN:=dZ ([69]++aF (e.st.st) 2++aF (e.st.mi) 1++[e.asked,e.got,e.order].flatMap (fun n=>aF n 8)) (by simp only[List.length_append,List.length_cons,List.length_nil,aY]<;>omega) (e.size) 4 (by omega);generalize([69]++aF (e.st.st) 2++aF (e.st.mi) 1++[e.asked,e.got,e.order].flatMap (fun n=>aF n 8)++aF (e.size) 4)=X at hN⊢;generalize([69]++aF (e.st.st) 2++aF (e.st.mi) 1++[e.asked,e.got,e.order].flatMap (fun n=>aF n 8))=Y at hN⊢;simp;refine ak [1,0] hN (by simp) (by simp) (by simp[ay]) (by simp) ?_;simp;exact aE [(0,2)] (by simp)
 refine bS mixed (fun _:Unit=>True) (fun _=>[(1,.p (.ref (dY e))),(4,.obj 1 0)]) (fun _=>⟨[(1,yD 0 ([69]++aF (e.st.st) 2++aF (e.st.mi) 1++[e.asked,e.got,e.order].flatMap (fun n=>aF n 8)++aF (e.size) 4++aF (e.sum) 4)),(0,ew ([69]++aF (e.st.st) 2++aF (e.st.mi) 1++[e.asked,e.got,e.order].flatMap (fun n=>aF n 8)++aF (e.size) 4++aF (e.sum) 4))],[],2⟩) ?_ (fun _ _=>?_)
 ·have hN:=dZ ([69]++aF (e.st.st) 2++aF (e.st.mi) 1++[e.asked,e.got,e.order].flatMap (fun n=>aF n 8)++aF (e.size) 4) (by simp only[List.length_append,List.length_cons,List.length_nil,aY]<;>omega) (e.sum) 4 (by omega);generalize([69]++aF (e.st.st) 2++aF (e.st.mi) 1++[e.asked,e.got,e.order].flatMap (fun n=>aF n 8)++aF (e.size) 4++aF (e.sum) 4)=X at hN⊢;generalize([69]++aF (e.st.st) 2++aF (e.st.mi) 1++[e.asked,e.got,e.order].flatMap (fun n=>aF n 8)++aF (e.size) 4)=Y at hN⊢;simp[ws];refine ak [1,0] hN (by simp) (by simp) (by simp[ay]) (by simp) ?_;simp;exact aE [(0,2)] (by simp)
 refine bS mixed (fun _:Unit=>True) (fun _=>[(1,.p (.ref (dY e))),(4,.obj 1 0)]) (fun _=>⟨[(1,yD 0 ([69]++aF (e.st.st) 2++aF (e.st.mi) 1++[e.asked,e.got,e.order].flatMap (fun n=>aF n 8)++aF (e.size) 4++aF (e.sum) 4++a_ [e.uri,e.var,e.st.r])),(0,ew ([69]++aF (e.st.st) 2++aF (e.st.mi) 1++[e.asked,e.got,e.order].flatMap (fun n=>aF n 8)++aF (e.size) 4++aF (e.sum) 4++a_ [e.uri,e.var,e.st.r]))],[],2⟩) ?_ (fun _ _=>?_)
 ·have hN:=tj ([69]++aF (e.st.st) 2++aF (e.st.mi) 1++[e.asked,e.got,e.order].flatMap (fun n=>aF n 8)++aF (e.size) 4++aF (e.sum) 4) [e.uri,e.var,e.st.r] (by first|(have:=h.nl;omega)|simp) (by simp only[List.length_append,List.length_cons,List.length_nil,aY];omega);generalize hX:([69]++aF (e.st.st) 2++aF (e.st.mi) 1++[e.asked,e.got,e.order].flatMap (fun n=>aF n 8)++aF (e.size) 4++aF (e.sum) 4++a_ [e.uri,e.var,e.st.r])=X at hN⊢;generalize([69]++aF (e.st.st) 2++aF (e.st.mi) 1++[e.asked,e.got,e.order].flatMap (fun n=>aF n 8)++aF (e.size) 4++aF (e.sum) 4)=Y at hN⊢;simp;refine ak [1,0] hN (by simp) (by simp) (by simp[ay]) (by simp) ?_;simp;exact aE [(0,2)] (by simp)
 refine bS mixed (fun _:Unit=>True) (fun _=>[(1,.p (.ref (dY e))),(4,.obj 1 0)]) (fun _=>⟨[(1,yD 0 ([69]++aF (e.st.st) 2++aF (e.st.mi) 1++[e.asked,e.got,e.order].flatMap (fun n=>aF n 8)++aF (e.size) 4++aF (e.sum) 4++a_ [e.uri,e.var,e.st.r]++aF (e.names.length) 1)),(0,ew ([69]++aF (e.st.st) 2++aF (e.st.mi) 1++[e.asked,e.got,e.order].flatMap (fun n=>aF n 8)++aF (e.size) 4++aF (e.sum) 4++a_ [e.uri,e.var,e.st.r]++aF (e.names.length) 1))],[],2⟩) ?_ (fun _ _=>?_)
 ·have hN:=dZ ([69]++aF (e.st.st) 2++aF (e.st.mi) 1++[e.asked,e.got,e.order].flatMap (fun n=>aF n 8)++aF (e.size) 4++aF (e.sum) 4++a_ [e.uri,e.var,e.st.r]) (by simp only[List.length_append,List.length_cons,List.length_nil,aY]<;>omega) (e.names.length) 1 (by omega);generalize([69]++aF (e.st.st) 2++aF (e.st.mi) 1++[e.asked,e.got,e.order].flatMap (fun n=>aF n 8)++aF (e.size) 4++aF (e.sum) 4++a_ [e.uri,e.var,e.st.r]++aF (e.names.length) 1)=X at hN⊢;generalize([69]++aF (e.st.st) 2++aF (e.st.mi) 1++[e.asked,e.got,e.order].flatMap (fun n=>aF n 8)++aF (e.size) 4++aF (e.sum) 4++a_ [e.uri,e.var,e.st.r])=Y at hN⊢;simp;refine ak [1,0] hN (by simp) (by simp) (by simp[ay]) (by simp) ?_;simp;exact aE [(0,2)] (by simp)
 refine bS mixed (fun _:Unit=>True) (fun _=>[(1,.p (.ref (dY e))),(4,.obj 1 0)]) (fun _=>⟨[(1,yD 0 ([69]++aF (e.st.st) 2++aF (e.st.mi) 1++[e.asked,e.got,e.order].flatMap (fun n=>aF n 8)++aF (e.size) 4++aF (e.sum) 4++a_ [e.uri,e.var,e.st.r]++aF (e.names.length) 1++a_ e.names)),(0,ew ([69]++aF (e.st.st) 2++aF (e.st.mi) 1++[e.asked,e.got,e.order].flatMap (fun n=>aF n 8)++aF (e.size) 4++aF (e.sum) 4++a_ [e.uri,e.var,e.st.r]++aF (e.names.length) 1++a_ e.names))],[],2⟩) ?_ (fun _ _=>?_)
 ·have hN:=tj ([69]++aF (e.st.st) 2++aF (e.st.mi) 1++[e.asked,e.got,e.order].flatMap (fun n=>aF n 8)++aF (e.size) 4++aF (e.sum) 4++a_ [e.uri,e.var,e.st.r]++aF (e.names.length) 1) e.names (by first|(have:=h.nl;omega)|simp) (by simp only[List.length_append,List.length_cons,List.length_nil,aY];omega);generalize hX:([69]++aF (e.st.st) 2++aF (e.st.mi) 1++[e.asked,e.got,e.order].flatMap (fun n=>aF n 8)++aF (e.size) 4++aF (e.sum) 4++a_ [e.uri,e.var,e.st.r]++aF (e.names.length) 1++a_ e.names)=X at hN⊢;generalize([69]++aF (e.st.st) 2++aF (e.st.mi) 1++[e.asked,e.got,e.order].flatMap (fun n=>aF n 8)++aF (e.size) 4++aF (e.sum) 4++a_ [e.uri,e.var,e.st.r]++aF (e.names.length) 1)=Y at hN⊢;simp;refine ak [1,0] hN (by simp) (by simp) (by simp[ay]) (by simp) ?_;simp;exact aE [(0,2)] (by simp)
 refine bS mixed (fun _:Unit=>True) (fun _=>[(1,.p (.ref (dY e))),(4,.obj 1 0)]) (fun _=>⟨[(1,yD 0 ([69]++aF (e.st.st) 2++aF (e.st.mi) 1++[e.asked,e.got,e.order].flatMap (fun n=>aF n 8)++aF (e.size) 4++aF (e.sum) 4++a_ [e.uri,e.var,e.st.r]++aF (e.names.length) 1++a_ e.names++aF (e.fields.length) 1)),(0,ew ([69]++aF (e.st.st) 2++aF (e.st.mi) 1++[e.asked,e.got,e.order].flatMap (fun n=>aF n 8)++aF (e.size) 4++aF (e.sum) 4++a_ [e.uri,e.var,e.st.r]++aF (e.names.length) 1++a_ e.names++aF (e.fields.length) 1))],[],2⟩) ?_ (fun _ _=>?_)
 ·have hN:=dZ ([69]++aF (e.st.st) 2++aF (e.st.mi) 1++[e.asked,e.got,e.order].flatMap (fun n=>aF n 8)++aF (e.size) 4++aF (e.sum) 4++a_ [e.uri,e.var,e.st.r]++aF (e.names.length) 1++a_ e.names) (by simp only[List.length_append,List.length_cons,List.length_nil,aY]<;>omega) (e.fields.length) 1 (by omega);generalize([69]++aF (e.st.st) 2++aF (e.st.mi) 1++[e.asked,e.got,e.order].flatMap (fun n=>aF n 8)++aF (e.size) 4++aF (e.sum) 4++a_ [e.uri,e.var,e.st.r]++aF (e.names.length) 1++a_ e.names++aF (e.fields.length) 1)=X at hN⊢;generalize([69]++aF (e.st.st) 2++aF (e.st.mi) 1++[e.asked,e.got,e.order].flatMap (fun n=>aF n 8)++aF (e.size) 4++aF (e.sum) 4++a_ [e.uri,e.var,e.st.r]++aF (e.names.length) 1++a_ e.names)=Y at hN⊢;simp;refine ak [1,0] hN (by simp) (by simp) (by simp[ay]) (by simp) ?_;simp;exact aE [(0,2)] (by simp)
 refine bS mixed (fun _:Unit=>True) (fun _=>[(1,.p (.ref (dY e))),(4,.obj 1 0)]) (fun _=>⟨[(1,yD 0 ([69]++aF (e.st.st) 2++aF (e.st.mi) 1++[e.asked,e.got,e.order].flatMap (fun n=>aF n 8)++aF (e.size) 4++aF (e.sum) 4++a_ [e.uri,e.var,e.st.r]++aF (e.names.length) 1++a_ e.names++aF (e.fields.length) 1++e.fields.flatMap (fun(f:Go.Av.Fd)=>a_ [f.1,f.2]))),(0,ew ([69]++aF (e.st.st) 2++aF (e.st.mi) 1++[e.asked,e.got,e.order].flatMap (fun n=>aF n 8)++aF (e.size) 4++aF (e.sum) 4++a_ [e.uri,e.var,e.st.r]++aF (e.names.length) 1++a_ e.names++aF (e.fields.length) 1++e.fields.flatMap (fun(f:Go.Av.Fd)=>a_ [f.1,f.2])))],[],2⟩) ?_ (fun _ _=>?_)
 ·have GX:(e.fields).length<=1000000000:=by first|exact h.fl|(have:=h.bl;omega)|simp
  have mg:([69]++aF (e.st.st) 2++aF (e.st.mi) 1++[e.asked,e.got,e.order].flatMap (fun n=>aF n 8)++aF (e.size) 4++aF (e.sum) 4++a_ [e.uri,e.var,e.st.r]++aF (e.names.length) 1++a_ e.names++aF (e.fields.length) 1++e.fields.flatMap (fun(f:Go.Av.Fd)=>a_ [f.1,f.2])).length<=1000000000:=by simp only[List.length_append,List.length_cons,List.length_nil,aY];omega
  generalize([69]++aF (e.st.st) 2++aF (e.st.mi) 1++[e.asked,e.got,e.order].flatMap (fun n=>aF n 8)++aF (e.size) 4++aF (e.sum) 4++a_ [e.uri,e.var,e.st.r]++aF (e.names.length) 1++a_ e.names++aF (e.fields.length) 1)=Y at mg⊢;obtain⟨l,KI⟩:∃l,l=(e.fields):=⟨_,rfl⟩;rw[<-KI]at GX mg;simp;refine aN (fun k:Nat=>k<=l.length) (fun k=>[(1,.p (.ref (dY e))),(4,.obj 1 0),(79,.p (.sl (l.map pQ))),(80,.p (.int l.length)),(81,.p (.int k))]) (fun k=>⟨[(1,yD 0 (Y++(l.take k).flatMap (fun(f:Go.Av.Fd)=>a_ [f.1,f.2]))),(0,ew (Y++(l.take k).flatMap (fun(f:Go.Av.Fd)=>a_ [f.1,f.2])))],[],2⟩) (fun k=>l.length-k) 0 (by simp) _ (AS.le_refl _ _) (aA (by simp[KI])) ?_;intro k hk;have hsp:l.flatMap (fun(f:Go.Av.Fd)=>a_ [f.1,f.2])=(l.take k).flatMap (fun(f:Go.Av.Fd)=>a_ [f.1,f.2])++(l.drop k).flatMap (fun(f:Go.Av.Fd)=>a_ [f.1,f.2]):=by rw[<-List.flatMap_append,List.take_append_drop]
  by_cases ck:k<l.length
  ·have wk:IntKind.i64.wrap ((k:Int)+1)=((k+1:Nat):Int):=by rw[af (by omega) (by omega)];rfl
   obtain⟨s,hs⟩:∃s,l[k]=s:=⟨_,rfl⟩;have hts:Y++(l.take (k+1)).flatMap (fun(f:Go.Av.Fd)=>a_ [f.1,f.2])=(Y++(l.take k).flatMap (fun(f:Go.Av.Fd)=>a_ [f.1,f.2]))++(fun(f:Go.Av.Fd)=>a_ [f.1,f.2]) s:=by rw[List.take_succ_eq_append_getElem ck,hs];simp
   have hbk:(Y++(l.take k).flatMap (fun(f:Go.Av.Fd)=>a_ [f.1,f.2])).length+((fun(f:Go.Av.Fd)=>a_ [f.1,f.2]) s).length<=1000000000:=by
    rw[<-List.length_append,<-hts];have KJ:l.flatMap (fun(f:Go.Av.Fd)=>a_ [f.1,f.2])=(l.take (k+1)).flatMap (fun(f:Go.Av.Fd)=>a_ [f.1,f.2])++(l.drop (k+1)).flatMap (fun(f:Go.Av.Fd)=>a_ [f.1,f.2]):=by rw[<-List.flatMap_append,List.take_append_drop]
    rw[KJ]at mg;simp only[List.length_append]at mg⊢;omega
   generalize hZ:Y++(l.take (k+1)).flatMap (fun(f:Go.Av.Fd)=>a_ [f.1,f.2])=Z at hts;generalize Y++(l.take k).flatMap (fun(f:Go.Av.Fd)=>a_ [f.1,f.2])=X at hts hbk⊢;have hN:=tj X [s.1,s.2] (by simp) (by omega);simp[ck,hs];refine ak [1,0] hN (by simp) (by simp) (by simp[ay]) (by simp) ?_;have Hr:Z=X++a_ [s.1,s.2]:=hts;rw[<-Hr];simp[wk];exact⟨k+1,by omega,by omega,aE [(0,3)] (by simp[hZ])⟩
  ·obtain rfl:k=l.length:=by omega
   rw[List.take_length];simp;exact aA (by simp[KI])
 refine bS mixed (fun _:Unit=>True) (fun _=>[(1,.p (.ref (dY e))),(4,.obj 1 0)]) (fun _=>⟨[(1,yD 0 ([69]++aF (e.st.st) 2++aF (e.st.mi) 1++[e.asked,e.got,e.order].flatMap (fun n=>aF n 8)++aF (e.size) 4++aF (e.sum) 4++a_ [e.uri,e.var,e.st.r]++aF (e.names.length) 1++a_ e.names++aF (e.fields.length) 1++e.fields.flatMap (fun(f:Go.Av.Fd)=>a_ [f.1,f.2])++aF (e.body.length) 1)),(0,ew ([69]++aF (e.st.st) 2++aF (e.st.mi) 1++[e.asked,e.got,e.order].flatMap (fun n=>aF n 8)++aF (e.size) 4++aF (e.sum) 4++a_ [e.uri,e.var,e.st.r]++aF (e.names.length) 1++a_ e.names++aF (e.fields.length) 1++e.fields.flatMap (fun(f:Go.Av.Fd)=>a_ [f.1,f.2])++aF (e.body.length) 1))],[],2⟩) ?_ (fun _ _=>?_)
 ·have hN:=dZ ([69]++aF (e.st.st) 2++aF (e.st.mi) 1++[e.asked,e.got,e.order].flatMap (fun n=>aF n 8)++aF (e.size) 4++aF (e.sum) 4++a_ [e.uri,e.var,e.st.r]++aF (e.names.length) 1++a_ e.names++aF (e.fields.length) 1++e.fields.flatMap (fun(f:Go.Av.Fd)=>a_ [f.1,f.2])) (by simp only[List.length_append,List.length_cons,List.length_nil,aY]<;>omega) (e.body.length) 1 (by omega);generalize([69]++aF (e.st.st) 2++aF (e.st.mi) 1++[e.asked,e.got,e.order].flatMap (fun n=>aF n 8)++aF (e.size) 4++aF (e.sum) 4++a_ [e.uri,e.var,e.st.r]++aF (e.names.length) 1++a_ e.names++aF (e.fields.length) 1++e.fields.flatMap (fun(f:Go.Av.Fd)=>a_ [f.1,f.2])++aF (e.body.length) 1)=X at hN⊢;generalize([69]++aF (e.st.st) 2++aF (e.st.mi) 1++[e.asked,e.got,e.order].flatMap (fun n=>aF n 8)++aF (e.size) 4++aF (e.sum) 4++a_ [e.uri,e.var,e.st.r]++aF (e.names.length) 1++a_ e.names++aF (e.fields.length) 1++e.fields.flatMap (fun(f:Go.Av.Fd)=>a_ [f.1,f.2]))=Y at hN⊢;simp;refine ak [1,0] hN (by simp) (by simp) (by simp[ay]) (by simp) ?_;simp;exact aE [(0,2)] (by simp)
 refine bS mixed (fun _:Unit=>True) (fun _=>[(1,.p (.ref (dY e))),(4,.obj 1 0)]) (fun _=>⟨[(1,yD 0 ([69]++aF (e.st.st) 2++aF (e.st.mi) 1++[e.asked,e.got,e.order].flatMap (fun n=>aF n 8)++aF (e.size) 4++aF (e.sum) 4++a_ [e.uri,e.var,e.st.r]++aF (e.names.length) 1++a_ e.names++aF (e.fields.length) 1++e.fields.flatMap (fun(f:Go.Av.Fd)=>a_ [f.1,f.2])++aF (e.body.length) 1++e.body.flatMap (fun(x:Int×Int)=>aF x.1 4++aF x.2 4))),(0,ew ([69]++aF (e.st.st) 2++aF (e.st.mi) 1++[e.asked,e.got,e.order].flatMap (fun n=>aF n 8)++aF (e.size) 4++aF (e.sum) 4++a_ [e.uri,e.var,e.st.r]++aF (e.names.length) 1++a_ e.names++aF (e.fields.length) 1++e.fields.flatMap (fun(f:Go.Av.Fd)=>a_ [f.1,f.2])++aF (e.body.length) 1++e.body.flatMap (fun(x:Int×Int)=>aF x.1 4++aF x.2 4)))],[],2⟩) ?_ (fun _ _=>?_)
 ·have GX:(e.body).length<=1000000000:=by first|exact h.fl|(have:=h.bl;omega)|simp
  have mg:([69]++aF (e.st.st) 2++aF (e.st.mi) 1++[e.asked,e.got,e.order].flatMap (fun n=>aF n 8)++aF (e.size) 4++aF (e.sum) 4++a_ [e.uri,e.var,e.st.r]++aF (e.names.length) 1++a_ e.names++aF (e.fields.length) 1++e.fields.flatMap (fun(f:Go.Av.Fd)=>a_ [f.1,f.2])++aF (e.body.length) 1++e.body.flatMap (fun(x:Int×Int)=>aF x.1 4++aF x.2 4)).length<=1000000000:=by simp only[List.length_append,List.length_cons,List.length_nil,aY];omega
  generalize([69]++aF (e.st.st) 2++aF (e.st.mi) 1++[e.asked,e.got,e.order].flatMap (fun n=>aF n 8)++aF (e.size) 4++aF (e.sum) 4++a_ [e.uri,e.var,e.st.r]++aF (e.names.length) 1++a_ e.names++aF (e.fields.length) 1++e.fields.flatMap (fun(f:Go.Av.Fd)=>a_ [f.1,f.2])++aF (e.body.length) 1)=Y at mg⊢;obtain⟨l,KI⟩:∃l,l=(e.body):=⟨_,rfl⟩;rw[<-KI]at GX mg;simp;refine aN (fun k:Nat=>k<=l.length) (fun k=>[(1,.p (.ref (dY e))),(4,.obj 1 0),(99,.p (.sl (l.map gS))),(100,.p (.int l.length)),(101,.p (.int k))]) (fun k=>⟨[(1,yD 0 (Y++(l.take k).flatMap (fun(x:Int×Int)=>aF x.1 4++aF x.2 4))),(0,ew (Y++(l.take k).flatMap (fun(x:Int×Int)=>aF x.1 4++aF x.2 4)))],[],2⟩) (fun k=>l.length-k) 0 (by simp) _ (AS.le_refl _ _) (aA (by simp[KI])) ?_;intro k hk;have hsp:l.flatMap (fun(x:Int×Int)=>aF x.1 4++aF x.2 4)=(l.take k).flatMap (fun(x:Int×Int)=>aF x.1 4++aF x.2 4)++(l.drop k).flatMap (fun(x:Int×Int)=>aF x.1 4++aF x.2 4):=by rw[<-List.flatMap_append,List.take_append_drop]
  by_cases ck:k<l.length
  ·have wk:IntKind.i64.wrap ((k:Int)+1)=((k+1:Nat):Int):=by rw[af (by omega) (by omega)];rfl
   obtain⟨s,hs⟩:∃s,l[k]=s:=⟨_,rfl⟩;have hts:Y++(l.take (k+1)).flatMap (fun(x:Int×Int)=>aF x.1 4++aF x.2 4)=(Y++(l.take k).flatMap (fun(x:Int×Int)=>aF x.1 4++aF x.2 4))++(fun(x:Int×Int)=>aF x.1 4++aF x.2 4) s:=by rw[List.take_succ_eq_append_getElem ck,hs];simp
   have hbk:(Y++(l.take k).flatMap (fun(x:Int×Int)=>aF x.1 4++aF x.2 4)).length+((fun(x:Int×Int)=>aF x.1 4++aF x.2 4) s).length<=1000000000:=by
    rw[<-List.length_append,<-hts];have KJ:l.flatMap (fun(x:Int×Int)=>aF x.1 4++aF x.2 4)=(l.take (k+1)).flatMap (fun(x:Int×Int)=>aF x.1 4++aF x.2 4)++(l.drop (k+1)).flatMap (fun(x:Int×Int)=>aF x.1 4++aF x.2 4):=by rw[<-List.flatMap_append,List.take_append_drop]
    rw[KJ]at mg;simp only[List.length_append]at mg⊢;omega
   generalize hZ:Y++(l.take (k+1)).flatMap (fun(x:Int×Int)=>aF x.1 4++aF x.2 4)=Z at hts;generalize Y++(l.take k).flatMap (fun(x:Int×Int)=>aF x.1 4++aF x.2 4)=X at hts hbk⊢;have hN:=dZ X (by simp[aY]at hbk;omega) s.1 4 (by omega);have wu:=dZ (X++aF s.1 4) (by simp[aY]at hbk⊢;omega) s.2 4 (by omega);simp[ck,hs];refine ak [1,0] hN (by simp) (by simp) (by simp[ay]) (by simp) ?_;have Hr:Z=X++aF s.1 4++aF s.2 4:=by rw[hts];simp
   generalize X++aF s.1 4=X2 at wu Hr⊢;simp;refine ak [1,3] wu (by simp) (by simp) (by simp[ay]) (by simp) ?_;rw[<-Hr];simp[wk];exact⟨k+1,by omega,by omega,aE [(0,4)] (by simp[hZ])⟩
  ·obtain rfl:k=l.length:=by omega
   rw[List.take_length];simp;exact aA (by simp[KI])
 have hP:[69]++aF (e.st.st) 2++aF (e.st.mi) 1++[e.asked,e.got,e.order].flatMap (fun n=>aF n 8)++aF (e.size) 4++aF (e.sum) 4++a_ [e.uri,e.var,e.st.r]++aF (e.names.length) 1++a_ e.names++aF (e.fields.length) 1++e.fields.flatMap (fun(f:Go.Av.Fd)=>a_ [f.1,f.2])++aF (e.body.length) 1++e.body.flatMap (fun(x:Int×Int)=>aF x.1 4++aF x.2 4)=e.pack:=rfl;rw[hP];generalize e.pack=K at*;refine ga mixed ?_;by_cases c:8000<K.length
 ·have c':(8000:Int)<K.length:=by omega
  rw[if_pos c]at FJ Hq;subst FJ;subst Hq;simp[c',Tryz.results229];exact⟨[],by simp⟩
 ·have c':¬(8000:Int)<K.length:=by omega
  rw[if_neg c]at FJ Hq;subst FJ;subst Hq;simp[c',Tryz.results229];exact⟨[],by simp⟩
theorem PL(e:eG)(h:e.Ok)(hb:e.pack.length<=1000000000):aB Tryz.prog 229 [dY e] (.tp [cy e.wP.1,.int e.wP.2]):=by
 unfold eG.wP;by_cases hr:e.right=true
 ·rw[if_pos hr];have hG:=KG e h hr hb;by_cases c:8000<e.pack.length
  ·rw[if_pos c]at hG;rw[if_pos c];refine bN (xs:=[_]) hG ?_;simp[cQ,ie];rfl
  ·rw[if_neg c]at hG;rw[if_neg c];refine bN (xs:=[_]) hG ⟨rfl,xk _ 2 0 e.pack (by simp[lk]) _ rfl,?_,trivial⟩;simp[cQ]
 ·have hr':e.right=false:=by simpa using hr
  rw[if_neg hr];refine QpQ (ys:=[_,_]) [14,16] [] [] Tryz.func229 rfl (by simp[Tryz.ntmps229]) ?_;simp;refine ai (vz e h) (by simp) ?_;simp[hr',Tryz.results229];rfl
@[reducible]def Dz(b:List UInt8):Ob:=⟨359,1,[.p (cy b)]⟩
theorem CH(b:List UInt8)(hb:b.length<=1000000000)(n:Nat)(hn:n<=b.length):aI Tryz.prog 370 [.obj 0 0,.p (.int n)] ⟨[(0,Dz b)],[],1⟩ (.p (cy (b.take n))) ⟨[(0,Dz (b.drop n))],[],1⟩:=by
 have k1:List.take n (ah b)=ah (b.take n):=by simp[ah]
 have k2:List.drop n (ah b)=ah (b.drop n):=by simp[ah]
 have c:¬b.length<n:=by omega
 refine QgQ (rs:=[_]) [] [] [] Tryz.func370 rfl (by simp[Tryz.ntmps370]) ?_;simp[c,k1,k2,Tryz.results370];exact⟨fun y hy=>(cg _ y hy).symm,hn,fun y hy=>(cg _ y hy).symm,hn,[],by simp⟩
theorem xh(b:List UInt8)(hb:b.length<=1000000000)(n:Nat)(hn:n<=b.length):aI Tryz.prog 330 [.obj 0 0,.p (.int n)] ⟨[(0,Dz b)],[],1⟩ (.p (.int (cK (b.take n)))) ⟨[(0,Dz (b.drop n))],[],1⟩:=by
 have hT:=CH b hb n hn;have hl:(b.take n).length=n:=by simp;omega
 generalize b.take n=t at hT hl⊢;generalize b.drop n=d at hT⊢;refine QgQ (rs:=[_]) [] [] [] Tryz.func330 rfl (by simp[Tryz.ntmps330]) ?_;simp;refine az hT (by simp) (by simp[ay]) trivial rfl ?_;have w00:IntKind.i64.wrap 0=0:=af (by omega) (by omega);simp;refine aN (fun k:Nat=>k<=t.length) (fun k=>[(10,.p (cy t)),(11,.p (.int t.length)),(12,.p (.int k)),(5,.p (.int (cK (t.take k))))]) (fun _=>⟨[(0,Dz d)],[],1⟩) (fun k=>t.length-k) 0 (by simp) _ (AS.le_refl _ _) (aA (by simp[cK,iL,w00])) ?_;intro k hk;by_cases ck:k<t.length
 ·have w1:IntKind.i64.wrap ((k:Int)+1)=((k+1:Nat):Int):=by rw[af (by omega) (by omega)];rfl
  have wx:IntKind.i64.wrap (t[k].toNat:Int)=(t[k].toNat:Int):=af (by omega) (by have:=t[k].toNat_lt;omega);have ho:=xg (iL (t.take k)) t[k].toNat (t[k].toNat_lt);have hts:cK (t.take (k+1))=IntKind.i64.wrap ((iL (t.take k)*256+t[k].toNat:Nat):Int):=by
   unfold cK;rw[List.take_succ_eq_append_getElem ck,jj]
  rw[<-hts]at ho;change bits .or .i64 (IntKind.i64.wrap (cK (t.take k)*2^min 8 IntKind.i64.bits)) _=_ at ho;simp[ck,w1,wx,ho,cM];exact⟨k+1,by omega,by omega,aA (by simp)⟩
 ·obtain rfl:k=t.length:=by omega
  simp[Tryz.results330];exact⟨[],by simp⟩
theorem Lm(b:List UInt8)(hb:b.length<=1000000000)(n:Nat)(h2:2<=b.length)(hw:cK (b.take 2)=n)(hn:n+2<=b.length):aI Tryz.prog 331 [.obj 0 0] ⟨[(0,Dz b)],[],1⟩ (.p (.str ((b.drop 2).take n))) ⟨[(0,Dz (b.drop (2+n)))],[],1⟩:=by
 have hN:=xh b hb 2 h2;have hT:=CH (b.drop 2) (by simp;omega) n (by simp;omega);rw[hw]at hN;rw[List.drop_drop]at hT;refine QgQ (rs:=[_]) [] [] [] Tryz.func331 rfl (by simp[Tryz.ntmps331]) ?_;simp;refine az hN (by simp) (by simp[ay]) trivial rfl ?_;simp;refine az hT (by simp) (by simp[ay]) trivial rfl ?_;simp[Tryz.results331];exact⟨[],by simp⟩
end Go.Av
namespace Go.aW
structure Kn where
 key:List UInt8
 order:Int
 place:Int
 body:List (Int×Int)
def Kn.dD(k:Kn):Int×Int:=(k.place/256,k.place%256)
def uF(l:List (Int×Int)):Int:=(l.map fun x=>x.2*64).sum
theorem CB(l:List (Int×Int))(e:Int×Int):uF (l++[e])=uF l+e.2*64:=by simp[uF]
theorem Mt:∀(l:List (Int×Int)),(∀e∈l,0<=e.2/\e.2<=65536)->0<=uF l/\uF l<=4194304*l.length
 |[],_=>by simp[uF]
 |e::l,h=>by
  have h1:=Mt l (fun x hx=>h x (by simp[hx]));have h2:=h e (by simp);have:uF (e::l)=e.2*64+uF l:=by simp[uF]
  rw[this,List.length_cons];omega
def Hz(a b:List UInt8):Int:=if Op.bytesLess a b=true then-1 else if a=b then 0 else 1
def yw(f:Nat->Int):Nat->Nat->Nat->Nat
 |0,i,_=>i
 |n+1,i,j=>if i<j then(if f ((i+j)/2)<0 then yw f n ((i+j)/2+1) j else yw f n i ((i+j)/2))else i
end Go.aW
namespace Go.Av
open Go.Proofs Go.aW
abbrev PF(k:Kn):PC:= .agg false [.str k.key,.int k.order,.int k.place,.sl (k.body.map gS)]
theorem CA(k:Kn)(h:0<=k.place/\k.place<=1000000000):aB Tryz.prog 63 [PF k] (gS k.dD):=by
 have q1:k.place.tdiv 256=k.place/256:=Int.tdiv_eq_ediv_of_nonneg h.1;have q2:k.place.tmod 256=k.place%256:=Int.tmod_eq_emod_of_nonneg h.1;have w1:IntKind.i64.wrap (k.place/256)=k.place/256:=af (by omega) (by omega);have w2:IntKind.i64.wrap (k.place%256)=k.place%256:=af (by omega) (by omega);refine QpQ (ys:=[_]) [] [] [] Tryz.func63 rfl (by simp[Tryz.ntmps63]) ?_;simp[q1,q2,w1,Kn.dD,Tryz.results63]
theorem CC(l:List (Int×Int))(hl:l.length<=1000000)(hb:∀e∈l,0<=e.2/\e.2<=65536):aB Tryz.prog 66 [.sl (l.map gS)] (.int (uF l)):=by
 refine QpQ (ys:=[_]) [] [] [] Tryz.func66 rfl (by simp[Tryz.ntmps66]) ?_;simp;refine bW (fun k:Nat=>k<=l.length) (fun k=>[(6,.p (.sl (l.map gS))),(7,.p (.int l.length)),(8,.p (.int k)),(3,.p (.int (uF (l.take k))))]) (fun k=>l.length-k) 0 (by simp) (aA (by simp[uF])) ?_;intro k hk;by_cases ck:k<l.length
 ·have hts:uF (l.take (k+1))=uF (l.take k)+l[k].2*64:=by rw[List.take_succ_eq_append_getElem ck,CB]
  have b1:=Mt (l.take k) (fun e he=>hb e (List.mem_of_mem_take he));have bl:(l.take k).length<=1000000:=by simp;omega
  have b2:=hb _ (List.getElem_mem ck);have wk:IntKind.i64.wrap ((k:Int)+1)=((k+1:Nat):Int):=by rw[af (by omega) (by omega)];rfl
  have w1:IntKind.i64.wrap (l[k].2*64)=l[k].2*64:=af (by omega) (by omega);have w2:IntKind.i64.wrap (uF (l.take k)+l[k].2*64)=uF (l.take (k+1)):=by rw[af (by omega) (by omega),hts]
  simp[ck,wk,w1,w2];exact⟨k+1,by omega,by omega,aA (by simp)⟩
 ·obtain rfl:k=l.length:=by omega
  simp[Tryz.results66]
theorem Mu(a:List UInt8):aB Tryz.prog 249 [.str a] (.bool false):=by
 refine QpQ (ys:=[_]) [] [] [] Tryz.func249 rfl (by simp[Tryz.ntmps249]) ?_;simp[bne,Tryz.results249]
theorem XE(a b:List UInt8):aB Tryz.prog 156 [.str a,.str b] (.int (Hz a b)):=by
 refine QpQ (ys:=[_]) [] [] [] Tryz.func156 rfl (by simp[Tryz.ntmps156]) ?_;simp;refine ai (Mu a) (by simp) ?_;simp;refine ai (Mu b) (by simp) ?_;unfold Hz;cases c1:Op.bytesLess a b with
 |true=>simp[c1,Tryz.results156]
 |false=>
  by_cases c2:a=b
  ·subst c2;simp[c1,Tryz.results156]
  ·have dX:(a==b)=false:=by simpa using c2
   simp[c1,c2,dX,Tryz.results156]
theorem agX(k:Kn)(key:List UInt8):aB Tryz.prog 155 [PF k,.str key] (.int (Hz k.key key)):=by
 refine QpQ (ys:=[_]) [] [] [] Tryz.func155 rfl (by simp[Tryz.ntmps155]) ?_;simp;refine ai (XE k.key key) (by simp) ?_;simp[Tryz.results155]
end Go.Av
namespace Go.Av
open Go.Proofs
theorem WU:dV Tryz.prog 268:=⟨Tryz.f268,Tryz.func268,by kernel_rfl,by kernel_rfl⟩
theorem LN(nx id:Nat)(hid:id<nx)(cs:List PC)(n i j:Nat)(hn:cs.length=n*2)(hij:i<=j)(hj:j<=n)(hb:n<=1000000000000):aI Tryz.prog 268 [.view id 0 n 2 none,.p (.int i),.p (.int j)] ⟨[(id,⟨157,2,cs.map .p⟩)],[],nx⟩ (.view nx 0 (n-(j-i)) 2 none) ⟨[(nx,⟨157,2,(cs.take (i*2)++cs.drop (j*2)).map .p⟩)],[],nx+1⟩:=by
 have hne:¬id=nx:=by omega
 have mc:¬nx=id:=by omega
 have gR:(cs.map AV.p).length=n*2:=by simp;omega
 refine jm (pre:=[]) (post:=[_,_]) WU (fun c h1 h2 h3=>?_) ?_
 ·refine QgQ (rs:=[_]) [] [(5,[(6,.w [])])] [] Tryz.func268 rfl (by simp[Tryz.ntmps268]) ?_;generalize hA:cs.map AV.p=A at*;by_cases c0:i=j
  ·subst c0;have hd:List.take (i*2) A++List.drop (i*2) A=A:=List.take_append_drop _ _;simp[Tryz.results268];exact⟨hj,[(nx,id)],by simp[hA]⟩
  ·have e0:((i:Int)==(j:Int))=false:=by rw[beq_eq_false_iff_ne];omega
   have t1:((i:Int)+((n-j:Nat):Int)).toNat=i+(n-j):=by omega
   have key:∀R,List.take ((i+(n-j))*2) (List.take (i*2) A++(List.take ((n-j)*2) (List.drop (j*2) A)++R))=List.take (i*2) A++List.drop (j*2) A:=fun R=>by
    have:=AI (R:=R) (n:=n*2) (i:=i*2) (j:=j*2) (k:=(i+(n-j))*2) gR (by omega) (by omega) (by omega);rw[<-Nat.sub_mul]at this;exact this
   simp[e0,t1,Tryz.results268,mc]
   repeat' refine And.intro ?_ ?_
   all_goals first|omega|skip
   refine .inl ?_
   repeat' refine And.intro ?_ ?_
   all_goals first|omega|(simp;omega)|skip
   refine⟨[(nx,id)],?_⟩;simp[hA,key];omega
 ·intro hn0;have Ji:i=0:=by omega
  have hj0:j=0:=by omega
  have hc0:cs=[]:=List.eq_nil_of_length_eq_zero (by omega);subst Ji;subst hj0;subst hc0;subst hn0;refine fU (r:= .full []) (aO:=⟨[],[],nx⟩) (el:=157) (s:=2) ?_ trivial;refine QgQ (rs:=[_]) [] [(5,[(6,.w [])])] [] Tryz.func268 rfl (by simp[Tryz.ntmps268]) ?_;simp
  repeat' refine And.intro ?_ ?_
  all_goals first|omega|exact⟨[],by simp⟩|simp
theorem WV:HX Tryz.prog 336:=⟨Tryz.f336,47,4,157,Tryz.func336,by kernel_rfl,by kernel_rfl,by kernel_rfl,by kernel_rfl,by kernel_rfl,by kernel_rfl⟩
theorem WW:dV Tryz.prog 269:=⟨Tryz.f269,Tryz.func269,by kernel_rfl,by kernel_rfl⟩
abbrev jk(e:Nat×Nat):PC:= .agg false [.int e.1,.int e.2]
theorem HY{A V Z R:List AV}{n i k:Nat}(hA:A.length=n*2)(hi:i<=n)(hV:V.length=2)(hZ:2<=Z.length)(hk:k=(n-i)*2):List.take ((i+1)*2) (bB ((i+1)*2) (List.take (i*2) (bB (i*2) (List.take (i*2) A++Z))++(V++List.drop (i*2+2) (bB (i*2) (List.take (i*2) A++Z)))))++(List.take k (List.drop (i*2) A)++R)=List.take (i*2) A++(V++(List.drop (i*2) A++R)):=by
 have h1:(List.take (i*2) A).length=i*2:=by simp;omega
 have h2:List.take k (List.drop (i*2) A)=List.drop (i*2) A:=List.take_of_length_le (by simp;omega);rw[h2];generalize List.take (i*2) A=P at*;rw[eN (k:=i*2) (by simp;omega),List.take_left' h1];have h3:List.drop (i*2+2) (P++Z)=List.drop 2 Z:=by rw[List.drop_append,h1,List.drop_of_length_le (by omega)];simp
 rw[h3,eN (by simp;omega),<-List.append_assoc P V,List.take_left' (by simp;omega)];simp
theorem HZ{A V:List AV}{n i k:Nat}(hA:A.length=n*2)(hi:i<n)(hV:V.length=2)(hk:k=(n-i)*2):List.take (i*2) (bB (i*2) (List.take ((i+1)*2) (bB ((i+1)*2) A)++(List.take k (List.drop (i*2) (bB ((i+1)*2) A))++List.drop ((i+1)*2+k) (bB ((i+1)*2) A))))++(V++List.drop (i*2+2) (bB (i*2) (List.take ((i+1)*2) (bB ((i+1)*2) A)++(List.take k (List.drop (i*2) (bB ((i+1)*2) A))++List.drop ((i+1)*2+k) (bB ((i+1)*2) A)))))=List.take (i*2) A++(V++List.drop (i*2) A):=by
 have e1:bB ((i+1)*2) A=A:=eN (by omega);have e2:List.take k (List.drop (i*2) A)=List.drop (i*2) A:=List.take_of_length_le (by simp;omega);have e3:List.drop ((i+1)*2+k) A=[]:=List.drop_of_length_le (by omega);rw[e1,e2,e3,List.append_nil];have l1:(List.take ((i+1)*2) A).length=(i+1)*2:=by simp;omega
 rw[eN (by simp;omega)];congr 1
 ·rw[List.take_append_of_le_length (by omega),List.take_take,Nat.min_eq_left (by omega)]
 ·congr 1;rw[List.drop_append,l1,List.drop_of_length_le (by omega),show i*2+2-(i+1)*2=0 by omega];simp
theorem LO(nx id:Nat)(hid:id<nx)(cs:List PC)(n i:Nat)(e:Nat×Nat)(hn:cs.length=n*2)(hi:i<=n)(hb:n<=1000000000000):aI Tryz.prog 269 [.view id 0 n 2 none,.p (.int i),.p (.sl [jk e])] ⟨[(id,⟨157,2,cs.map .p⟩)],[],nx⟩ (.view nx 0 (n+1) 2 none) ⟨[(nx,⟨157,2,(cs.take (i*2)++[PC.int e.1,PC.int e.2]++cs.drop (i*2)).map .p⟩)],[],nx+1⟩:=by
 have hne:¬id=nx:=by omega
 refine jm (pre:=[]) (post:=[_,_]) WW (fun c h1 h2 h3=>?_) ?_
 ·have lg:∀k:Int,0<=k->k<=4000000000000->IntKind.i64.wrap k=k:=fun k h1 h2=>af (by omega) (by omega);refine QgQ (rs:=[_]) [] [(11,[(8,.w [])]),(15,[(8,.w [])])] [] Tryz.func269 rfl (by simp[Tryz.ntmps269]) ?_;have w1:IntKind.i64.wrap ((n:Int)+1)=(n:Int)+1:=lg _ (by omega) (by omega);have w2:IntKind.i64.wrap ((n:Int)+1-(i:Int))=(n:Int)+1-(i:Int):=lg _ (by omega) (by omega);have w3:IntKind.i64.wrap ((i:Int)+1)=(i:Int)+1:=lg _ (by omega) (by omega);have t1:((n:Int)+1).toNat=n+1:=by omega
  have t2:((n:Int)+1-(i:Int)).toNat=n+1-i:=by omega
  have t3:((i:Int)+1).toNat=i+1:=by omega
  have mc:¬nx=id:=by omega
  by_cases c1:i=n
  ·subst c1;have hcs:List.drop (i*2) (cs.map AV.p)=[]:=List.drop_of_length_le (by simp;omega);simp[Tryz.results269,h1,hcs];refine⟨by omega,?_⟩;rcases Nat.lt_or_ge c (i+1)with h|h
   ·exact .inr ⟨by omega,by omega,by omega,[],by simp⟩
   ·exact .inl ⟨h,[(nx,id)],by simp⟩
  ·have e1:((i:Int)==(n:Int))=false:=by rw[beq_eq_false_iff_ne];omega
   have gR:(cs.map AV.p).length=n*2:=by simp;omega
   by_cases c2:c<n+1
   ·have e2:(decide ((c:Int)<(n:Int)+1))=true:=by simp;omega
    generalize hA:cs.map AV.p=A at*;have m1:Nat.min 1 (n+1-i)=1:=Nat.min_eq_left (by omega);have m2:(n-i).min (i+(n+1-i)-(i+1))=n-i:=Nat.min_eq_left (by omega);have key:=fun R=>HY (V:=[.p (.int e.1),.p (.int e.2)]) (R:=R) (Z:=List.map AV.p (fC (n+1-i) [.sc (.int .i64 0),.sc (.int .i64 0)])) gR hi rfl (by simp[oH];omega) rfl;simp at key;simp[e1,w1,e2,w2,w3,t2,t3,Tryz.results269,hi,h1,hne,mc,m1,m2,key]
    repeat' refine And.intro ?_ ?_
    all_goals first|omega|skip
    refine⟨[],?_⟩;simp[hA];omega
   ·have e2:(decide ((c:Int)<(n:Int)+1))=false:=by simp;omega
    generalize hA:cs.map AV.p=A at*;simp[e1,w1,e2,w3,t1,t3,hi,h1];refine⟨by omega,by omega,by omega,by omega,qW WV (.inr rfl) (ob:=⟨157,2,A⟩) (by simp) rfl (by omega) (by simp) (by simp[qX]) ?_⟩;have m1:Nat.min 1 (n+1-i)=1:=Nat.min_eq_left (by omega);have m4:(n+1-i).min (n-i)=n-i:=Nat.min_eq_right (by omega);have key:=HZ (V:=[.p (.int e.1),.p (.int e.2)]) gR (by omega:i<n) rfl rfl;simp at key;simp[w3,t3,Tryz.results269,hi,m1,m4,key]
    repeat' refine And.intro ?_ ?_
    all_goals first|omega|(rw[eH];omega)|skip
    exact⟨[(nx,id)],by simp[hA]⟩
 ·intro hn0;have Ji:i=0:=by omega
  have hc0:cs=[]:=List.eq_nil_of_length_eq_zero (by omega);subst Ji;subst hc0;subst hn0;refine QgQ (rs:=[_]) [25] [(11,[(8,.w [])]),(15,[(8,.w [])])] [] Tryz.func269 rfl (by simp[Tryz.ntmps269]) ?_;simp[Tryz.results269];exact⟨[],by simp⟩
abbrev Ext:=Nat×Nat
abbrev jg(L:List Ext):PC:= .sl (L.map jk)
theorem GG(x:Int):aB Tryz.prog 201 [.int x] (.bool false):=by
 refine QpQ (ys:=[_]) [] [] [] Tryz.func201 rfl (by simp[Tryz.ntmps201]) ?_;simp[Tryz.results201]
theorem xV{n:Int}(h1:0<=n)(h2:n<=18446744073709551615):IntKind.u64.wrap n=n:=by
 have e:IntKind.u64.wrap n=n%18446744073709551616:=rfl;rw[e];omega
def yO(x y:Int):Int:=if x<y then-1 else if y<x then 1 else 0
theorem I3(x y:Int):aB Tryz.prog 110 [.int x,.int y] (.int (yO x y)):=by
 refine QpQ (ys:=[_]) [] [] [] Tryz.func110 rfl (by simp[Tryz.ntmps110]) ?_;simp;refine ai (GG x) (by simp) ?_;simp;refine ai (GG y) (by simp) ?_;by_cases h:x<y
 ·simp[h,Tryz.results110,yO]
 ·by_cases h2:y<x
  ·simp[h,h2,Tryz.results110,yO]
  ·simp[h,h2,Tryz.results110,yO]
theorem GH(e:Ext)(t:Nat)(h1:e.1+e.2<=1000000)(h2:t<=1000000):aB Tryz.prog 335 [jk e,.int t] (.int (yO ((e.1:Int)+(e.2:Int)) ((t:Int)+1))):=by
 have w1:IntKind.i64.wrap ((e.1:Int)+(e.2:Int))=((e.1+e.2:Nat):Int):=by rw[af (by omega) (by omega)];simp
 have w2:IntKind.i64.wrap ((t:Int)+1)=((t+1:Nat):Int):=by rw[af (by omega) (by omega)];simp
 refine QpQ (ys:=[_]) [] [] [] Tryz.func335 rfl (by simp[Tryz.ntmps335]) ?_;simp[w1,w2];refine ai (I3 ((e.1:Int)+(e.2:Int)) ((t:Int)+1)) (by simp) ?_;simp[Tryz.results335]
def gY(L:List Ext)(t:Nat):Nat:=(L.takeWhile fun e=>decide (e.1+e.2<=t)).length
def Up(L:List Ext):Prop:=L.Pairwise fun a b=>a.1+a.2<=b.1+b.2
theorem ai'{L:List Ext}(h:Up L){p q:Nat}(hpq:p<=q)(hq:q<L.length):L[p].1+L[p].2<=L[q].1+L[q].2:=by
 by_cases e:p=q
 ·subst e;exact Nat.le_refl _
 ·exact List.pairwise_iff_getElem.1 h p q (by omega) hq (by omega)
theorem JI(L:List Ext)(t:Nat):gY L t<=L.length:=by unfold gY;exact(List.takeWhile_prefix _).length_le
theorem LJ{L:List Ext}{t i:Nat}(hi:i<=L.length)(h1:∀p (hp:p<L.length),p<i->L[p].1+L[p].2<=t)(h2:∀(hp:i<L.length),t<L[i].1+L[i].2):gY L t=i:=by
 induction L generalizing i with
 |nil=>simp at hi;subst hi;rfl
 |cons a L ih=>
  cases i with
  |zero=>
   have:=h2 (by simp);simp only[List.getElem_cons_zero]at this;have h:decide (a.1+a.2<=t)=false:=by simp;omega
   simp[gY,h]
  |succ i=>
   have ha:=h1 0 (by simp) (by omega);simp at ha;have:=ih (i:=i) (by simpa using hi) (fun p hp hpi=>by have:=h1 (p+1) (by simp;omega) (by omega);simpa using this) (fun hp=>by have:=h2 (by simp;omega);simpa using this);simp[gY,ha]at this⊢;exact this
theorem NN(L:List Ext)(t:Nat)(hL:Up L)(hl:L.length<=1000000)(hb:∀e∈L,e.1+e.2<=1000000)(ht:t<=1000000):aB Tryz.prog 334 [jg L,.int t,.fn (.func 335) []] (.tp [.int (gY L t),.bool (decide (∃h:gY L t<L.length,L[gY L t].1+L[gY L t].2=t+1))]):=by
 refine QpQ (ys:=[_,_]) [] [] [] Tryz.func334 rfl (by simp[Tryz.ntmps334]) ?_;simp;refine bW (fun ij:Nat×Nat=>ij.1<=ij.2/\ij.2<=L.length/\(∀p (hp:p<L.length),p<ij.1->L[p].1+L[p].2<=t)/\(∀(hp:ij.2<L.length),t<L[ij.2].1+L[ij.2].2)) (fun ij=>[(0,.p (jg L)),(1,.p (.int t)),(2,.p (.fn (.func 335) [])),(8,.p (.int L.length)),(9,.p (.int ij.1)),(10,.p (.int ij.2))]) (fun ij=>ij.2-ij.1) (0,L.length) (by simp) (aA (by simp)) ?_;rintro⟨i,j⟩ ⟨h1,h2,h3,h4⟩;simp only at h1 h2 h3 h4;by_cases c:i<j
 ·obtain⟨h,hh⟩:∃h,h=(i+j)/2:=⟨_,rfl⟩;have w0:IntKind.i64.wrap ((i:Int)+(j:Int))=((i+j:Nat):Int):=by rw[af (by omega) (by omega)];simp
  have hm:h<L.length:=by omega
  have wm:IntKind.i64.wrap ((IntKind.u64.wrap ((i:Int)+(j:Int))).fdiv (2^min 1 IntKind.u64.bits))=(h:Int):=by
   have e1:IntKind.u64.wrap ((i:Int)+(j:Int))=((i+j:Nat):Int):=by exact xV (by omega) (by omega)
   have e2:(2:Int)^min 1 IntKind.u64.bits=2:=rfl;rw[e1,e2,Int.fdiv_eq_ediv_of_nonneg _ (by omega),hh,af (by omega) (by omega)];simp
  simp[c,w0,wm,hm];refine ai (GH L[h] t (hb _ (by simp)) ht) (by simp) ?_;by_cases c2:L[h].1+L[h].2<=t
  ·have e2:decide (yO ((L[h].1:Int)+(L[h].2:Int)) ((t:Int)+1)<0)=true:=by
    have:(L[h].1:Int)+(L[h].2:Int)<(t:Int)+1:=by omega
    simp[yO,this]
   simp[e2];refine⟨h+1,j,⟨by omega,h2,?_,h4⟩,by omega,aA ?_⟩
   ·intro p hp hph;have:=ai' hL (p:=p) (q:=h) (by omega) hm;omega
   ·simp[af (n:=(h:Int)+1) (by omega) (by omega)]
  ·have e2:decide (yO ((L[h].1:Int)+(L[h].2:Int)) ((t:Int)+1)<0)=false:=by
    have:¬(L[h].1:Int)+(L[h].2:Int)<(t:Int)+1:=by omega
    simp only[yO,this,if_false];split<;>rfl
   simp[e2];exact⟨i,h,⟨by omega,by omega,h3,fun _=>by omega⟩,by omega,aA (by simp)⟩
 ·have e:i=j:=by omega
  subst e;have ea:gY L t=i:=LJ h2 h3 h4;by_cases c2:i<L.length
  ·simp[c2];refine ai (GH L[i] t (hb _ (by simp)) ht) (by simp) ?_;simp[Tryz.results334,ea,c2];rw[Bool.eq_iff_iff];simp only[decide_eq_true_eq,beq_iff_eq,yO];split
   ·constructor<;>intro<;>omega
   ·split
    ·constructor<;>intro<;>omega
    ·constructor<;>intro<;>omega
  ·simp[c2,Tryz.results334,ea]
theorem vK(L:List Ext)(t:Nat)(hL:Up L)(hl:L.length<=1000000)(hb:∀e∈L,e.1+e.2<=1000000)(ht:t<=1000000):aB Tryz.prog 267 [jg L,.int t] (.int (gY L t)):=by
 refine QpQ (ys:=[_]) [] [] [] Tryz.func267 rfl (by simp[Tryz.ntmps267]) ?_;simp;refine ai (NN L t hL hl hb ht) (by simp) ?_;simp[Tryz.results267]
def yz(L:List Ext):Nat:=(L.map (·.2)).sum
theorem NO{L:List Ext}{k:Nat}(h:k<L.length):yz (L.take (k+1))=yz (L.take k)+L[k].2:=by
 unfold yz;rw[List.take_succ_eq_append_getElem h,List.map_append,List.sum_append];simp
theorem Zs{L:List Ext}(hb:∀e∈L,e.2<=1000000):yz L<=L.length*1000000:=by
 unfold yz
 induction L with
 |nil=>simp
 |cons a L ih=>
  have:=ih fun e he=>hb e (by simp[he]);have:=hb a (by simp);simp;omega
theorem Vq(L:List Ext)(hl:L.length<=1000000)(hb:∀e∈L,e.2<=1000000):aB Tryz.prog 188 [jg L] (.int (yz L)):=by
 refine QpQ (ys:=[_]) [] [] [] Tryz.func188 rfl (by simp[Tryz.ntmps188]) ?_;simp;refine bW (fun k:Nat=>k<=L.length) (fun k=>[(6,.p (jg L)),(7,.p (.int L.length)),(8,.p (.int k)),(3,.p (.int (yz (L.take k))))]) (fun k=>L.length-k) 0 (by simp) (aA (by simp[yz])) ?_;intro k hk;by_cases c:k<L.length
 ·have b1:=Zs (L:=L.take k) fun e he=>hb e (List.mem_of_mem_take he);simp at b1;have b2:=hb L[k] (by simp);have b3:min k L.length*1000000<=1000000*1000000:=Nat.mul_le_mul_right _ (by omega);have w:IntKind.i64.wrap ((yz (L.take k):Int)+(L[k].2:Int))=(yz (L.take (k+1)):Int):=by
   rw[NO c,af (by omega) (by omega)];simp
  simp[c];refine⟨k+1,by omega,by omega,aA ?_⟩;simp[w,af (n:=(k:Int)+1) (by omega) (by omega)]
 ·have e:k=L.length:=by omega
  subst e;simp[Tryz.results188]
def sS(L:List Ext)(e:Ext):Bool:=match L[gY L e.1]? with
 |some x=>decide (x.1<e.1+e.2)
 |none=>false
def hasB(L:List Ext)(e:Ext):Bool:=match L[gY L e.1]? with
 |some x=>decide (x.1<=e.1)&&decide (e.1+e.2<=x.1+x.2)
 |none=>false
theorem A5(L:List Ext)(e:Ext)(hL:Up L)(hl:L.length<=1000000)(hb:∀e∈L,e.1+e.2<=1000000)(he:e.1+e.2<=1000000):aB Tryz.prog 246 [jg L,jk e] (.bool (sS L e)):=by
 have w1:IntKind.i64.wrap ((e.1:Int)+(e.2:Int))=(e.1:Int)+(e.2:Int):=af (by omega) (by omega);refine QpQ (ys:=[_]) [] [] [] Tryz.func246 rfl (by simp[Tryz.ntmps246]) ?_;simp;refine ai (vK L e.1 hL hl hb (by omega)) (by simp) ?_;unfold sS;generalize gY L e.1=i;by_cases c:i<L.length
 ·simp[c,w1,Tryz.results246];omega
 ·simp[c,Tryz.results246]
theorem ahy(L:List Ext)(e:Ext)(hL:Up L)(hl:L.length<=1000000)(hb:∀e∈L,e.1+e.2<=1000000)(he:e.1+e.2<=1000000):aB Tryz.prog 264 [jg L,jk e] (.bool (hasB L e)):=by
 have w1:IntKind.i64.wrap ((e.1:Int)+(e.2:Int))=(e.1:Int)+(e.2:Int):=af (by omega) (by omega);refine QpQ (ys:=[_]) [] [] [] Tryz.func264 rfl (by simp[Tryz.ntmps264]) ?_;simp;refine ai (vK L e.1 hL hl hb (by omega)) (by simp) ?_;unfold hasB;generalize gY L e.1=i;by_cases c:i<L.length
 ·have b:=hb L[i] (by simp);have w2:IntKind.i64.wrap ((L[i].1:Int)+(L[i].2:Int))=(L[i].1:Int)+(L[i].2:Int):=af (by omega) (by omega);by_cases c2:L[i].1<=e.1
  ·simp[c,c2,w1,w2,Tryz.results264];omega
  ·simp[c,c2,Tryz.results264]
 ·simp[c,Tryz.results264]
def cW(L:List Ext):List PC:=L.flatMap fun e=>[PC.int e.1,PC.int e.2]
abbrev cn(L:List Ext):Ob:=⟨157,2,(cW L).map .p⟩
@[simp]theorem Zf:cW []=[]:=rfl
theorem dy(e:Ext)(L:List Ext):cW (e::L)=PC.int e.1::PC.int e.2::cW L:=rfl
theorem pZ(L M:List Ext):cW (L++M)=cW L++cW M:=by simp[cW]
@[simp]theorem Zg(L:List Ext):(cW L).length=L.length*2:=by
 induction L with
 |nil=>rfl
 |cons a L ih=>simp[ih,dy];omega
theorem uW(L:List Ext):∀i,(cW L).take (i*2)=cW (L.take i):=by
 induction L with
 |nil=>intro i;simp
 |cons a L ih=>
  intro i;cases i with
  |zero=>simp
  |succ i=>rw[show(i+1)*2=i*2+1+1 by omega];simp[ih,dy]
theorem lN(L:List Ext):∀i,(cW L).drop (i*2)=cW (L.drop i):=by
 induction L with
 |nil=>intro i;simp
 |cons a L ih=>
  intro i;cases i with
  |zero=>simp
  |succ i=>rw[show(i+1)*2=i*2+1+1 by omega];simp[ih,dy]
theorem yR{L:List Ext}{i:Nat}(h:i<L.length):(cW L)[i*2]?=some (.int L[i].1)/\(cW L)[i*2+1]?=some (.int L[i].2):=by
 induction L generalizing i with
 |nil=>simp at h
 |cons a L ih=>
  cases i with
  |zero=>simp[dy]
  |succ i=>rw[show(i+1)*2=i*2+1+1 by omega];simpa[dy]using ih (by simpa using h)
theorem E8(L:List Ext):(L.map jk).flatMap gu=cW L:=by
 induction L with
 |nil=>rfl
 |cons a L ih=>simp[ih,dy]
theorem iS{bx:List (Nat×Ob)}{k id n:Nat}{c:Option Nat}{L:List Ext}(h:lk id bx=some (cn L))(hn:n=L.length):cQ bx (k+1) (.view id 0 n 2 c) (jg L):=by
 subst hn;refine⟨_,h,by omega,by simp,by simp,?_,?_,?_⟩
 ·rw[qR,E8];simp;exact List.take_of_length_le (by simp)
 ·intro y hy;obtain⟨e,_,rfl⟩:=List.mem_map.1 hy;rfl
 ·intro y hy;obtain⟨e,_,rfl⟩:=List.mem_map.1 hy;rfl
theorem qG{L:List Ext}{k n:Nat}(h:k<L.length):(cW L).take (k*2+1)++PC.int n::(cW L).drop (k*2+1+1)=cW (L.take k++(L[k].1,n)::L.drop (k+1)):=by
 induction L generalizing k with
 |nil=>simp at h
 |cons a L ih=>
  cases k with
  |zero=>simp[dy]
  |succ k=>
   have:=ih (k:=k) (by simpa using h);rw[show(k+1)*2+1=k*2+1+1+1 by omega];simp[dy,this]
theorem nu(nx id:Nat)(hid:id<nx)(L:List Ext)(i:Nat)(hi:i<L.length)(hb:L.length<=1000000):aI Tryz.prog 268 [.view id 0 L.length 2 none,.p (.int i),.p (.int ((i:Int)+1))] ⟨[(id,cn L)],[],nx⟩ (.view nx 0 (L.length-1) 2 none) ⟨[(nx,cn (L.take i++L.drop (i+1)))],[],nx+1⟩:=by
 have:=LN nx id hid (cW L) L.length i (i+1) (by simp) (by omega) (by omega) (by omega);rw[uW,lN,<-pZ,show L.length-(i+1-i)=L.length-1 by omega]at this;exact this
theorem jE(nx id:Nat)(hid:id<nx)(L:List Ext)(i:Nat)(e:Ext)(hi:i<=L.length)(hb:L.length<=1000000):aI Tryz.prog 269 [.view id 0 L.length 2 none,.p (.int i),.p (.sl [jk e])] ⟨[(id,cn L)],[],nx⟩ (.view nx 0 (L.length+1) 2 none) ⟨[(nx,cn (L.take i++e::L.drop i))],[],nx+1⟩:=by
 have:=LO nx id hid (cW L) L.length i e (by simp) hi (by omega);rw[uW,lN,List.append_assoc]at this;rw[show cn (L.take i++e::L.drop i)=⟨157,2,(cW (L.take i)++([PC.int e.1,PC.int e.2]++cW (L.drop i))).map .p⟩ by simp[cn,pZ,dy]];exact this
def qP(L:List Ext)(e:Ext):Bool:=match L[gY L e.1]? with
 |some x=>decide (e.1+e.2=x.1)
 |none=>false
def iR(L:List Ext)(e:Ext):List Ext:=if qP L e=true then L.take (gY L e.1)++L.drop (gY L e.1+1)else L
def zX(L:List Ext)(e:Ext):Ext:=if qP L e=true then(e.1,e.2+(L.getD (gY L e.1) (0,0)).2)else e
def iQ(M:List Ext)(i:Nat)(e:Ext):List Ext:=match i with
 |0=>e::M
 |k+1=>if(M.getD k (0,0)).1+(M.getD k (0,0)).2=e.1 then M.take k++((M.getD k (0,0)).1,(M.getD k (0,0)).2+e.2)::M.drop (k+1)else M.take (k+1)++e::M.drop (k+1)
def fS(L:List Ext)(e:Ext):List Ext:=iQ (iR L e) (gY L e.1) (zX L e)
theorem FQ(nx id dO:Nat)(hid:id<nx)(aob:dO<nx)(hne:id≠dO)(el sz off:Nat)(xs:List AV)(L:List Ext)(e:Ext)(hx:xs[off]?=some (.view dO 0 L.length 2 none))(hxl:AV.e_.eE nx xs=true)(hL:Up L)(hl:L.length<=65536)(hb:∀e∈L,e.1+e.2<=100000)(he:e.1+e.2<=100000):aI Tryz.prog 176 [.obj id off,.p (jk e)] ⟨[(id,⟨el,sz,xs⟩),(dO,cn L)],[],nx⟩ (.agg true []) ⟨[(id,⟨el,sz,xs.take off++ .view nx 0 (fS L e).length 2 none::xs.drop (off+1)⟩),(nx,cn (fS L e))],[],nx+1⟩:=by
 have w1:IntKind.i64.wrap ((e.1:Int)+(e.2:Int))=(e.1:Int)+(e.2:Int):=af (by omega) (by omega);have n1:¬id=nx:=by omega
 have n2:¬dO=nx:=by omega
 have n3:¬nx=id:=by omega
 have n4:¬nx=dO:=by omega
 have n5:¬dO=id:=by omega
 have n6:¬id=nx+1:=by omega
 have n7:¬nx+1=id:=by omega
 have n8:¬dO=nx+1:=by omega
 have n9:¬nx+1=dO:=by omega
 have SW:¬id=nx+1+1:=by omega
 have n11:¬nx+1+1=id:=by omega
 have sJ:id<nx+1:=by omega
 have hoff:off<xs.length:=by
  rcases Nat.lt_or_ge off xs.length with h|h
  ·exact h
  ·rw[List.getElem?_eq_none h]at hx;cases hx
 have ha:=vK L e.1 hL (by omega) (fun e he=>by have:=hb e he;omega) (by omega);have apW:=JI L e.1;have hr:∀k,AV.cH.dA (sP [(nx,k)]) xs=xs:=fun k=>jN (nx:=nx) (by simp) xs hxl;have GA:∀k,nx<=k->AV.e_.eE k xs=true:=fun k hk=>kP hk xs hxl;have GB:∀bx,lk dO bx=some (cn L)->cQ bx 4 (.view dO 0 L.length 2 none) (jg L):=fun bx h=>iS h rfl;have dS:∀(M:List Ext) (k:Nat) (h:k<M.length),(cW M)[k*2]?=some (.int M[k].1)/\(cW M)[k*2+1]?=some (.int M[k].2)/\(∀h',(cW M)[k*2]'h'= .int M[k].1)/\(∀h',(cW M)[k*2+1]'h'= .int M[k].2):=by
  intro M k h;have h1:=yR h;exact⟨h1.1,h1.2,fun h'=>by have:=h1.1;rw[List.getElem?_eq_getElem h']at this;injection this,fun h'=>by have:=h1.2;rw[List.getElem?_eq_getElem h']at this;injection this⟩
 have hN:fS L e=iQ (iR L e) (gY L e.1) (zX L e):=rfl;generalize fS L e=N at*;generalize hi:gY L e.1=i at*;by_cases c:i<L.length
 ·have g:=dS L i c;by_cases jr:e.1+e.2=L[i].1
  ·have hj:qP L e=true:=by unfold qP;rw[hi];simp[c,jr]
   have Jw:iR L e=L.take i++L.drop (i+1):=by unfold iR;rw[if_pos hj,hi]
   have hE:zX L e=(e.1,e.2+L[i].2):=by unfold zX;rw[if_pos hj,hi];simp[c]
   rw[hE]at hN;generalize iR L e=M at*;have Zh:=Jw.symm;have U8:M.length=L.length-1:=by rw[Jw];simp;omega
   have e1:((e.1:Int)+(e.2:Int)==(L[i].1:Int))=true:=by simp;omega
   have w3:IntKind.i64.wrap ((e.2:Int)+(L[i].2:Int))=(e.2:Int)+(L[i].2:Int):=by have:=hb L[i] (by simp);exact af (by omega) (by omega)
   have w0:IntKind.i64.wrap ((i:Int)+1)=(i:Int)+1:=af (by omega) (by omega);by_cases z:i=0
   ·have z0:¬0<i:=by omega
    have hNe:M.take i++(e.1,e.2+L[i].2)::M.drop i=N:=by rw[hN];generalize(e.1,e.2+L[i].2)=E;rw[z];simp[iQ]
    have vm:N.length=M.length+1:=by rw[<-hNe];simp;omega
    refine QgQ (rs:=[]) [3] [(3,[(6,.r 1),(8,.r 1),(14,.r 2)]),(4,[(1,.r 1),(6,.r 2),(9,.s 1 [2])]),(6,[(8,.r 3),(14,.r 3),(17,.r 1)]),(7,[(5,.r 3),(7,.r 1),(11,.s 3 [1])])] [(1,nx),(2,dO),(3,nx+1)] Tryz.func176 rfl (by simp[Tryz.ntmps176]) ?_;simp[hx,n1];refine bE ha ⟨GB _ (by simp[n2,n5]),by simp[cQ],trivial⟩ rfl ?_;simp[n2,n3,n4,n5,w1,c,e1,g.2.1,g.2.2.1,w0,w3];refine az (nu (nx+1) dO (by omega) L i c (by omega)) (by simp) (by simp[ay,n2,n5]) trivial rfl ?_;rw[Zh,<-U8];simp[n2,n5,z0];refine az (jE (nx+1+1) (nx+1) (by omega) M i (e.1,e.2+L[i].2) (by omega) (by omega)) (by simp) (by simp[ay]) trivial rfl ?_;rw[hNe];simp[n1,n7,SW,Tryz.results176];refine⟨by omega,[(nx,nx+1+1)],?_⟩;simp[n1,SW,n11,hr,GA,sJ,vm]
   ·obtain⟨k,hk⟩:∃k,i=k+1:=⟨i-1,by omega⟩;have z1:0<i:=by omega
    have vk:k<M.length:=by omega
    have gk:=dS M k vk;have hsub:∀x∈M,x∈L:=by rw[Jw];intro x hx;rcases List.mem_append.1 hx with h|h;exact List.mem_of_mem_take h;exact List.mem_of_mem_drop h
    have bk:=hb _ (hsub _ (List.getElem_mem vk));have bi:=hb L[i] (by simp);have w4:IntKind.i64.wrap ((i:Int)-1)=(k:Int):=by rw[af (by omega) (by omega)];omega
    have w5:IntKind.i64.wrap ((M[k].1:Int)+(M[k].2:Int))=(M[k].1:Int)+(M[k].2:Int):=af (by omega) (by omega);by_cases jl:M[k].1+M[k].2=e.1
    ·have e2:((M[k].1:Int)+(M[k].2:Int)==(e.1:Int))=true:=by simp;omega
     have w6:IntKind.i64.wrap ((M[k].2:Int)+((e.2:Int)+(L[i].2:Int)))=((M[k].2+(e.2+L[i].2):Nat):Int):=by rw[af (by omega) (by omega)];simp
     have hNe:M.take k++(M[k].1,M[k].2+(e.2+L[i].2))::M.drop (k+1)=N:=by rw[hN];simp only[hk,iQ];simp[vk,jl]
     have vm:N.length=M.length:=by rw[<-hNe];simp;omega
     have gy:=congrArg (List.map AV.p) (qG (n:=M[k].2+(e.2+L[i].2)) vk);rw[hNe]at gy;simp at gy;refine QgQ (rs:=[]) [3] [(3,[(6,.r 1),(8,.r 1),(14,.r 2)]),(4,[(1,.r 1),(6,.r 2),(9,.s 1 [2])]),(6,[(8,.r 3),(14,.r 3),(17,.r 1)]),(7,[(5,.r 3),(7,.r 1),(11,.s 3 [1])])] [(1,nx),(2,dO),(3,nx+1)] Tryz.func176 rfl (by simp[Tryz.ntmps176]) ?_;simp[hx,n1];refine bE ha ⟨GB _ (by simp[n2,n5]),by simp[cQ],trivial⟩ rfl ?_;simp[n2,n3,n4,n5,w1,c,e1,g.2.1,g.2.2.1,w0,w3];refine az (nu (nx+1) dO (by omega) L i c (by omega)) (by simp) (by simp[ay,n2,n5]) trivial rfl ?_;rw[Zh,<-U8];simp[n1,n2,n5,n6,n7,gk.2.1,gk.2.2.1,w4,w5,w6,e2,z1,vk];refine⟨by omega,by omega,[(nx,nx+1)],?_⟩;simp[n1,n6,n7,hr,GA,sJ,vm,gy]
    ·have e2:((M[k].1:Int)+(M[k].2:Int)==(e.1:Int))=false:=by simp;omega
     have hNe:M.take i++(e.1,e.2+L[i].2)::M.drop i=N:=by rw[hN];simp only[hk,iQ];simp[vk,jl]
     have vm:N.length=M.length+1:=by rw[<-hNe];simp;omega
     refine QgQ (rs:=[]) [3] [(3,[(6,.r 1),(8,.r 1),(14,.r 2)]),(4,[(1,.r 1),(6,.r 2),(9,.s 1 [2])]),(6,[(8,.r 3),(14,.r 3),(17,.r 1)]),(7,[(5,.r 3),(7,.r 1),(11,.s 3 [1])])] [(1,nx),(2,dO),(3,nx+1)] Tryz.func176 rfl (by simp[Tryz.ntmps176]) ?_;simp[hx,n1];refine bE ha ⟨GB _ (by simp[n2,n5]),by simp[cQ],trivial⟩ rfl ?_;simp[n2,n3,n4,n5,w1,c,e1,g.2.1,g.2.2.1,w0,w3];refine az (nu (nx+1) dO (by omega) L i c (by omega)) (by simp) (by simp[ay,n2,n5]) trivial rfl ?_;rw[Zh,<-U8];simp[n2,n5,gk.2.1,gk.2.2.1,w4,w5,e2,z1,vk];refine az (jE (nx+1+1) (nx+1) (by omega) M i (e.1,e.2+L[i].2) (by omega) (by omega)) (by simp) (by simp[ay]) trivial rfl ?_;rw[hNe];simp[n1,n7,SW,Tryz.results176];refine⟨by omega,[(nx,nx+1+1)],?_⟩;simp[n1,SW,n11,hr,GA,sJ,vm]
  ·have hj:qP L e=false:=by unfold qP;rw[hi];simp[c,jr]
   have hE:zX L e=e/\iR L e=L:=by unfold zX iR;rw[hj];simp
   rw[hE.1,hE.2]at hN;have e1:((e.1:Int)+(e.2:Int)==(L[i].1:Int))=false:=by simp;omega
   by_cases z:i=0
   ·have z0:¬0<i:=by omega
    have hNe:L.take i++e::L.drop i=N:=by rw[hN];generalize e=E;rw[z];simp[iQ]
    have vm:N.length=L.length+1:=by rw[<-hNe];simp;omega
    refine QgQ (rs:=[]) [3] [(3,[(6,.r 1),(8,.r 1),(14,.r 2)]),(4,[(1,.r 1),(6,.r 2),(9,.s 1 [2])]),(6,[(8,.r 3),(14,.r 3),(17,.r 1)]),(7,[(5,.r 3),(7,.r 1),(11,.s 3 [1])])] [(1,nx),(2,dO),(3,dO)] Tryz.func176 rfl (by simp[Tryz.ntmps176]) ?_;simp[hx,n1];refine bE ha ⟨GB _ (by simp[n2,n5]),by simp[cQ],trivial⟩ rfl ?_;simp[n2,n5,w1,c,e1,g.2.2.1,z0];refine az (jE (nx+1) dO (by omega) L i e (by omega) (by omega)) (by simp) (by simp[ay,n2,n5]) trivial rfl ?_;rw[hNe];simp[n1,n2,n5,n6,Tryz.results176];refine⟨by omega,[(nx,nx+1)],?_⟩;simp[n1,n6,n7,hr,GA,sJ,vm]
   ·obtain⟨k,hk⟩:∃k,i=k+1:=⟨i-1,by omega⟩;have z1:0<i:=by omega
    have vk:k<L.length:=by omega
    have gk:=dS L k vk;have hsub:∀x∈L,x∈L:=by exact fun x h=>h
    have bk:=hb _ (hsub _ (List.getElem_mem vk));have w4:IntKind.i64.wrap ((i:Int)-1)=(k:Int):=by rw[af (by omega) (by omega)];omega
    have w5:IntKind.i64.wrap ((L[k].1:Int)+(L[k].2:Int))=(L[k].1:Int)+(L[k].2:Int):=af (by omega) (by omega);by_cases jl:L[k].1+L[k].2=e.1
    ·have e2:((L[k].1:Int)+(L[k].2:Int)==(e.1:Int))=true:=by simp;omega
     have w6:IntKind.i64.wrap ((L[k].2:Int)+(e.2:Int))=((L[k].2+e.2:Nat):Int):=by rw[af (by omega) (by omega)];simp
     have hNe:L.take k++(L[k].1,L[k].2+e.2)::L.drop (k+1)=N:=by rw[hN];simp only[hk,iQ];simp[vk,jl]
     have vm:N.length=L.length:=by rw[<-hNe];simp;omega
     have gy:=congrArg (List.map AV.p) (qG (n:=L[k].2+e.2) vk);rw[hNe]at gy;simp at gy;refine QgQ (rs:=[]) [3] [(3,[(6,.r 1),(8,.r 1),(14,.r 2)]),(4,[(1,.r 1),(6,.r 2),(9,.s 1 [2])]),(6,[(8,.r 3),(14,.r 3),(17,.r 1)]),(7,[(5,.r 3),(7,.r 1),(11,.s 3 [1])])] [(1,nx),(2,dO),(3,dO)] Tryz.func176 rfl (by simp[Tryz.ntmps176]) ?_;simp[hx,n1];refine bE ha ⟨GB _ (by simp[n2,n5]),by simp[cQ],trivial⟩ rfl ?_;simp[hne,n1,n2,n4,n5,w1,c,e1,g.2.2.1,gk.2.1,gk.2.2.1,w4,w5,w6,e2,z1,vk];refine⟨by omega,by omega,[(nx,dO)],?_⟩;simp[hne,n1,n5,hr,GA,sJ,vm,gy]
    ·have e2:((L[k].1:Int)+(L[k].2:Int)==(e.1:Int))=false:=by simp;omega
     have hNe:L.take i++e::L.drop i=N:=by rw[hN];simp only[hk,iQ];simp[vk,jl]
     have vm:N.length=L.length+1:=by rw[<-hNe];simp;omega
     refine QgQ (rs:=[]) [3] [(3,[(6,.r 1),(8,.r 1),(14,.r 2)]),(4,[(1,.r 1),(6,.r 2),(9,.s 1 [2])]),(6,[(8,.r 3),(14,.r 3),(17,.r 1)]),(7,[(5,.r 3),(7,.r 1),(11,.s 3 [1])])] [(1,nx),(2,dO),(3,dO)] Tryz.func176 rfl (by simp[Tryz.ntmps176]) ?_;simp[hx,n1];refine bE ha ⟨GB _ (by simp[n2,n5]),by simp[cQ],trivial⟩ rfl ?_;simp[n2,n5,w1,c,e1,g.2.2.1,gk.2.1,gk.2.2.1,w4,w5,e2,z1,vk];refine az (jE (nx+1) dO (by omega) L i e (by omega) (by omega)) (by simp) (by simp[ay,n2,n5]) trivial rfl ?_;rw[hNe];simp[n1,n2,n5,n6,Tryz.results176];refine⟨by omega,[(nx,nx+1)],?_⟩;simp[n1,n6,n7,hr,GA,sJ,vm]
 ·have hj:qP L e=false:=by unfold qP;rw[hi];simp[c]
  have hE:zX L e=e/\iR L e=L:=by unfold zX iR;rw[hj];simp
  rw[hE.1,hE.2]at hN;by_cases z:i=0
  ·have z0:¬0<i:=by omega
   have hNe:L.take i++e::L.drop i=N:=by rw[hN];generalize e=E;rw[z];simp[iQ]
   have vm:N.length=L.length+1:=by rw[<-hNe];simp;omega
   refine QgQ (rs:=[]) [3] [(3,[(6,.r 1),(8,.r 1),(14,.r 2)]),(4,[(1,.r 1),(6,.r 2),(9,.s 1 [2])]),(6,[(8,.r 3),(14,.r 3),(17,.r 1)]),(7,[(5,.r 3),(7,.r 1),(11,.s 3 [1])])] [(1,nx),(2,dO),(3,dO)] Tryz.func176 rfl (by simp[Tryz.ntmps176]) ?_;simp[hx,n1];refine bE ha ⟨GB _ (by simp[n2,n5]),by simp[cQ],trivial⟩ rfl ?_;simp[c,z0];refine az (jE (nx+1) dO (by omega) L i e (by omega) (by omega)) (by simp) (by simp[ay,n2,n5]) trivial rfl ?_;rw[hNe];simp[n1,n2,n5,n6,Tryz.results176];refine⟨by omega,[(nx,nx+1)],?_⟩;simp[n1,n6,n7,hr,GA,sJ,vm]
  ·obtain⟨k,hk⟩:∃k,i=k+1:=⟨i-1,by omega⟩;have z1:0<i:=by omega
   have vk:k<L.length:=by omega
   have gk:=dS L k vk;have hsub:∀x∈L,x∈L:=by exact fun x h=>h
   have bk:=hb _ (hsub _ (List.getElem_mem vk));have w4:IntKind.i64.wrap ((i:Int)-1)=(k:Int):=by rw[af (by omega) (by omega)];omega
   have w5:IntKind.i64.wrap ((L[k].1:Int)+(L[k].2:Int))=(L[k].1:Int)+(L[k].2:Int):=af (by omega) (by omega);by_cases jl:L[k].1+L[k].2=e.1
   ·have e2:((L[k].1:Int)+(L[k].2:Int)==(e.1:Int))=true:=by simp;omega
    have w6:IntKind.i64.wrap ((L[k].2:Int)+(e.2:Int))=((L[k].2+e.2:Nat):Int):=by rw[af (by omega) (by omega)];simp
    have hNe:L.take k++(L[k].1,L[k].2+e.2)::L.drop (k+1)=N:=by rw[hN];simp only[hk,iQ];simp[vk,jl]
    have vm:N.length=L.length:=by rw[<-hNe];simp;omega
    have gy:=congrArg (List.map AV.p) (qG (n:=L[k].2+e.2) vk);rw[hNe]at gy;simp at gy;refine QgQ (rs:=[]) [3] [(3,[(6,.r 1),(8,.r 1),(14,.r 2)]),(4,[(1,.r 1),(6,.r 2),(9,.s 1 [2])]),(6,[(8,.r 3),(14,.r 3),(17,.r 1)]),(7,[(5,.r 3),(7,.r 1),(11,.s 3 [1])])] [(1,nx),(2,dO),(3,dO)] Tryz.func176 rfl (by simp[Tryz.ntmps176]) ?_;simp[hx,n1];refine bE ha ⟨GB _ (by simp[n2,n5]),by simp[cQ],trivial⟩ rfl ?_;simp[hne,n1,n2,n4,n5,c,gk.2.1,gk.2.2.1,w4,w5,w6,e2,z1,vk];refine⟨by omega,by omega,[(nx,dO)],?_⟩;simp[hne,n1,n5,hr,GA,sJ,vm,gy]
   ·have e2:((L[k].1:Int)+(L[k].2:Int)==(e.1:Int))=false:=by simp;omega
    have hNe:L.take i++e::L.drop i=N:=by rw[hN];simp only[hk,iQ];simp[vk,jl]
    have vm:N.length=L.length+1:=by rw[<-hNe];simp;omega
    refine QgQ (rs:=[]) [3] [(3,[(6,.r 1),(8,.r 1),(14,.r 2)]),(4,[(1,.r 1),(6,.r 2),(9,.s 1 [2])]),(6,[(8,.r 3),(14,.r 3),(17,.r 1)]),(7,[(5,.r 3),(7,.r 1),(11,.s 3 [1])])] [(1,nx),(2,dO),(3,dO)] Tryz.func176 rfl (by simp[Tryz.ntmps176]) ?_;simp[hx,n1];refine bE ha ⟨GB _ (by simp[n2,n5]),by simp[cQ],trivial⟩ rfl ?_;simp[n2,n5,c,gk.2.1,gk.2.2.1,w4,w5,e2,z1,vk];refine az (jE (nx+1) dO (by omega) L i e (by omega) (by omega)) (by simp) (by simp[ay,n2,n5]) trivial rfl ?_;rw[hNe];simp[n1,n2,n5,n6,Tryz.results176];refine⟨by omega,[(nx,nx+1)],?_⟩;simp[n1,n6,n7,hr,GA,sJ,vm]
end Go.Av
