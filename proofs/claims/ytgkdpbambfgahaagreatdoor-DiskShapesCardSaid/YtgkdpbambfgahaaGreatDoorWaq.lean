/- DiskShapes, part 17: what functions compute, and its plain law; no condition. -/
import Derived.Test.YtgkdpbambfgahaaGreatDoorWap
set_option linter.all false
set_option maxRecDepth 100000
set_option maxHeartbeats 64000000
namespace Go.aT
open Go.Av
def cZ.h1(e:cZ):List UInt8:=69::(aC e.st.st 2++aC e.st.mi 1)
def cZ.h2(e:cZ):List UInt8:=e.h1++([e.asked,e.got,e.order].flatMap fun n=>aC n 8)
def cZ.h3(e:cZ):List UInt8:=e.h2++aC e.size 4++aC e.sum 4++aY [e.uri,e.var,e.st.r]++aC e.names.length 1++aY e.names++aC e.fields.length 1
def cZ.h4(e:cZ):List UInt8:=e.h3++(e.fields.flatMap fun f=>aY [f.1,f.2])++aC e.body.length 1
def cZ.pack(e:cZ):List UInt8:=e.h4++(e.body.flatMap fun x=>aC x.1 4++aC x.2 4)
def cZ.yz(e:cZ):List UInt8×Int:=if e.right=true then(if 8000<e.pack.length then([],12)else(e.pack,0))else([],10)
end Go.aT
namespace Go.Av
open Go.Proofs Go.Proofs.Tryz Go.aT
theorem MQ(e:cZ)(h:e.Ok)(hr:e.right=true)(hb:e.pack.length<=1000000000):aE prog 229 [.p (dI e)] ⟨[],[],0⟩ (if 8000<e.pack.length then .agg true [.p .nil,.p (.int 12)]else .agg true [.view 0 0 e.pack.length 1 none,.p (.int 0)]) ⟨[(0,eG e.pack)],[],1⟩:=by
 obtain⟨r1,HK⟩:∃r1,(if 8000<e.pack.length then AV.p .nil else .view 0 0 e.pack.length 1 none)=r1:=⟨_,rfl⟩;obtain⟨r2,Jy⟩:∃r2,(if 8000<e.pack.length then AV.p (.int 12)else .p (.int 0))=r2:=⟨_,rfl⟩;have hR:(if 8000<e.pack.length then AV.agg true [.p .nil,.p (.int 12)]else .agg true [.view 0 0 e.pack.length 1 none,.p (.int 0)])=vX [r1,r2]:=by rw[<-HK,<-Jy];split<;>rfl
 refine ji (rs:=[r1,r2]) [14,16] [] [] func229 rfl (by kernel_rfl) (by kernel_rfl) (by simp[ntmps229]) hR ?_;refine bM mixed (fun _:Unit=>True) (fun _=>[(1,.p (.ref (dI e)))]) (fun _=>⟨[],[],0⟩) ?_ (fun _ _=>?_)
 ·simp;exact ak (by simp)
 refine bM mixed (fun _:Unit=>True) (fun _=>[(1,.p (.ref (dI e))),(13,.p (.bool false))]) (fun _=>⟨[],[],0⟩) ?_ (fun _ _=>?_)
 ·simp;refine bS (xG e h) ?_;simp[hr];exact ak (by simp)
 refine bM mixed (fun _:Unit=>True) (fun _=>[(1,.p (.ref (dI e))),(4,.obj 1 0)]) (fun _=>⟨[(1,⟨408,1,[.view 0 0 1 1 (some 1)]⟩),(0,eG [69])],[],2⟩) ?_ (fun _ _=>?_)
 ·simp;exact ak (by simp[af])
 refine qo (MR 1 0 (.view 0 0 1 1 (some 1)) (.view 0 0 1 1 none) ⟨408,1,[.view 0 0 1 1 (some 1)]⟩ (by simp[lk]) rfl (by simp)) ?_;have ws:IntKind.i64.wrap (e.sum:Int)=(e.sum:Int):=bf (by omega) (by have:=h.sum;omega);have hL2:e.h2.length=4+([e.asked,e.got,e.order].flatMap fun n=>aC n 8).length:=by simp[cZ.h2,cZ.h1,aW];try omega
 have hL:e.pack.length=e.h4.length+(e.body.flatMap fun x=>aC x.1 4++aC x.2 4).length:=by simp[cZ.pack]
 have hL4:e.h4.length=e.h3.length+(e.fields.flatMap fun f=>aY [f.1,f.2]).length+1:=by simp[cZ.h4,aW];try omega
 have hL3:e.h3.length=e.h2.length+9+(aY [e.uri,e.var,e.st.r]).length+(aY e.names).length+1:=by simp[cZ.h3,aW];try omega
 refine bM mixed (fun _:Unit=>True) (fun _=>[(1,.p (.ref (dI e))),(4,.obj 1 0)]) (fun _=>⟨[(1,Ae 0 ([69]++aC (e.st.st) 2)),(0,eG ([69]++aC (e.st.st) 2))],[],2⟩) ?_ (fun _ _=>?_)
 ·have hN:=ew ([69]) (by simp only[List.length_cons,List.length_nil]<;>omega) (e.st.st) 2 (by omega);generalize([69]++aC (e.st.st) 2)=X at hN⊢;generalize([69])=Y at hN⊢;simp[Tb.aP];refine Da [1,0] hN ?_;simp;exact aB [(0,2)] (by simp)
 refine bM mixed (fun _:Unit=>True) (fun _=>[(1,.p (.ref (dI e))),(4,.obj 1 0)]) (fun _=>⟨[(1,Ae 0 ([69]++aC (e.st.st) 2++aC (e.st.mi) 1)),(0,eG ([69]++aC (e.st.st) 2++aC (e.st.mi) 1))],[],2⟩) ?_ (fun _ _=>?_)
 ·have hN:=ew ([69]++aC (e.st.st) 2) (by simp only[dU,List.length_cons,List.length_nil,aW]<;>omega) (e.st.mi) 1 (by omega);generalize([69]++aC (e.st.st) 2++aC (e.st.mi) 1)=X at hN⊢;generalize([69]++aC (e.st.st) 2)=Y at hN⊢;simp;refine Da [1,0] hN ?_;simp;exact aB [(0,2)] (by simp)
 refine bM mixed (fun _:Unit=>True) (fun _=>[(1,.p (.ref (dI e))),(4,.obj 1 0)]) (fun _=>⟨[(1,Ae 0 ([69]++aC (e.st.st) 2++aC (e.st.mi) 1++[e.asked,e.got,e.order].flatMap (fun n=>aC n 8))),(0,eG ([69]++aC (e.st.st) 2++aC (e.st.mi) 1++[e.asked,e.got,e.order].flatMap (fun n=>aC n 8)))],[],2⟩) ?_ (fun _ _=>?_)
 ·have Ja:([e.asked,e.got,e.order]).length<=1000000000:=by first|exact h.fl|(have:=h.bl;omega)|simp
  have pH:([69]++aC (e.st.st) 2++aC (e.st.mi) 1++[e.asked,e.got,e.order].flatMap (fun n=>aC n 8)).length<=1000000000:=by simp only[dU,List.length_cons,List.length_nil,aW];omega
  generalize([69]++aC (e.st.st) 2++aC (e.st.mi) 1)=Y at pH⊢;obtain⟨l,MS⟩:∃l,l=([e.asked,e.got,e.order]):=⟨_,rfl⟩;rw[<-MS]at Ja pH;simp;refine aL (fun k:Nat=>k<=l.length) (fun k=>[(1,.p (.ref (dI e))),(4,.obj 1 0),(35,.p (.sl (l.map PC.int))),(36,.p (.int l.length)),(37,.p (.int k))]) (fun k=>⟨[(1,Ae 0 (Y++(l.take k).flatMap (fun n=>aC n 8))),(0,eG (Y++(l.take k).flatMap (fun n=>aC n 8)))],[],2⟩) (fun k=>l.length-k) 0 (by simp) _ (AS.le_refl _ _) (ak (by simp[MS])) ?_;intro k hk;have hsp:l.flatMap (fun n=>aC n 8)=(l.take k).flatMap (fun n=>aC n 8)++(l.drop k).flatMap (fun n=>aC n 8):=by rw[<-List.flatMap_append,List.take_append_drop]
  by_cases ck:k<l.length
  ·have wk:=jq k;obtain⟨s,hs⟩:∃s,l[k]=s:=⟨_,rfl⟩;have hts:Y++(l.take (k+1)).flatMap (fun n=>aC n 8)=(Y++(l.take k).flatMap (fun n=>aC n 8))++(fun n=>aC n 8) s:=by rw[iA ck,hs];simp
   have hbk:(Y++(l.take k).flatMap (fun n=>aC n 8)).length+((fun n=>aC n 8) s).length<=1000000000:=by
    rw[<-dU,<-hts];have MT:l.flatMap (fun n=>aC n 8)=(l.take (k+1)).flatMap (fun n=>aC n 8)++(l.drop (k+1)).flatMap (fun n=>aC n 8):=by rw[<-List.flatMap_append,List.take_append_drop]
    rw[MT]at pH;simp only[dU]at pH⊢;omega
   generalize hZ:Y++(l.take (k+1)).flatMap (fun n=>aC n 8)=Z at hts;generalize Y++(l.take k).flatMap (fun n=>aC n 8)=X at hts hbk⊢;have hN:=ew X (by simp[aW]at hbk;omega) s 8 (by omega);simp[ck,hs];refine Da [1,0] hN ?_;have Jz:Z=X++aC s 8:=hts;rw[<-Jz];simp[wk];exact⟨k+1,by omega,by omega,aB [(0,2)] (by simp[hZ])⟩
  ·obtain rfl:k=l.length:=by omega
   rw[List.take_length];simp;exact ak (by simp[MS])
 refine bM mixed (fun _:Unit=>True) (fun _=>[(1,.p (.ref (dI e))),(4,.obj 1 0)]) (fun _=>⟨[(1,Ae 0 ([69]++aC (e.st.st) 2++aC (e.st.mi) 1++[e.asked,e.got,e.order].flatMap (fun n=>aC n 8)++aC (e.size) 4)),(0,eG ([69]++aC (e.st.st) 2++aC (e.st.mi) 1++[e.asked,e.got,e.order].flatMap (fun n=>aC n 8)++aC (e.size) 4))],[],2⟩) ?_ (fun _ _=>?_)
 ·have hN:=ew ([69]++aC (e.st.st) 2++aC (e.st.mi) 1++[e.asked,e.got,e.order].flatMap (fun n=>aC n 8)) (by simp only[dU,List.length_cons,List.length_nil,aW]<;>omega) (e.size) 4 (by omega);generalize([69]++aC (e.st.st) 2++aC (e.st.mi) 1++[e.asked,e.got,e.order].flatMap (fun n=>aC n 8)++aC (e.size) 4)=X at hN⊢;generalize([69]++aC (e.st.st) 2++aC (e.st.mi) 1++[e.asked,e.got,e.order].flatMap (fun n=>aC n 8))=Y at hN⊢;simp;refine Da [1,0] hN ?_;simp;exact aB [(0,2)] (by simp)
 refine bM mixed (fun _:Unit=>True) (fun _=>[(1,.p (.ref (dI e))),(4,.obj 1 0)]) (fun _=>⟨[(1,Ae 0 ([69]++aC (e.st.st) 2++aC (e.st.mi) 1++[e.asked,e.got,e.order].flatMap (fun n=>aC n 8)++aC (e.size) 4++aC (e.sum) 4)),(0,eG ([69]++aC (e.st.st) 2++aC (e.st.mi) 1++[e.asked,e.got,e.order].flatMap (fun n=>aC n 8)++aC (e.size) 4++aC (e.sum) 4))],[],2⟩) ?_ (fun _ _=>?_)
 ·have hN:=ew ([69]++aC (e.st.st) 2++aC (e.st.mi) 1++[e.asked,e.got,e.order].flatMap (fun n=>aC n 8)++aC (e.size) 4) (by simp only[dU,List.length_cons,List.length_nil,aW]<;>omega) (e.sum) 4 (by omega);generalize([69]++aC (e.st.st) 2++aC (e.st.mi) 1++[e.asked,e.got,e.order].flatMap (fun n=>aC n 8)++aC (e.size) 4++aC (e.sum) 4)=X at hN⊢;generalize([69]++aC (e.st.st) 2++aC (e.st.mi) 1++[e.asked,e.got,e.order].flatMap (fun n=>aC n 8)++aC (e.size) 4)=Y at hN⊢;simp[ws];refine Da [1,0] hN ?_;simp;exact aB [(0,2)] (by simp)
 refine bM mixed (fun _:Unit=>True) (fun _=>[(1,.p (.ref (dI e))),(4,.obj 1 0)]) (fun _=>⟨[(1,Ae 0 ([69]++aC (e.st.st) 2++aC (e.st.mi) 1++[e.asked,e.got,e.order].flatMap (fun n=>aC n 8)++aC (e.size) 4++aC (e.sum) 4++aY [e.uri,e.var,e.st.r])),(0,eG ([69]++aC (e.st.st) 2++aC (e.st.mi) 1++[e.asked,e.got,e.order].flatMap (fun n=>aC n 8)++aC (e.size) 4++aC (e.sum) 4++aY [e.uri,e.var,e.st.r]))],[],2⟩) ?_ (fun _ _=>?_)
 ·have hN:=u6 ([69]++aC (e.st.st) 2++aC (e.st.mi) 1++[e.asked,e.got,e.order].flatMap (fun n=>aC n 8)++aC (e.size) 4++aC (e.sum) 4) [e.uri,e.var,e.st.r] (by first|(have:=h.nl;omega)|simp) (by simp only[dU,List.length_cons,List.length_nil,aW];omega);generalize hX:([69]++aC (e.st.st) 2++aC (e.st.mi) 1++[e.asked,e.got,e.order].flatMap (fun n=>aC n 8)++aC (e.size) 4++aC (e.sum) 4++aY [e.uri,e.var,e.st.r])=X at hN⊢;generalize([69]++aC (e.st.st) 2++aC (e.st.mi) 1++[e.asked,e.got,e.order].flatMap (fun n=>aC n 8)++aC (e.size) 4++aC (e.sum) 4)=Y at hN⊢;simp;refine Da [1,0] hN ?_;simp;exact aB [(0,2)] (by simp)
 refine bM mixed (fun _:Unit=>True) (fun _=>[(1,.p (.ref (dI e))),(4,.obj 1 0)]) (fun _=>⟨[(1,Ae 0 ([69]++aC (e.st.st) 2++aC (e.st.mi) 1++[e.asked,e.got,e.order].flatMap (fun n=>aC n 8)++aC (e.size) 4++aC (e.sum) 4++aY [e.uri,e.var,e.st.r]++aC (e.names.length) 1)),(0,eG ([69]++aC (e.st.st) 2++aC (e.st.mi) 1++[e.asked,e.got,e.order].flatMap (fun n=>aC n 8)++aC (e.size) 4++aC (e.sum) 4++aY [e.uri,e.var,e.st.r]++aC (e.names.length) 1))],[],2⟩) ?_ (fun _ _=>?_)
 ·have hN:=ew ([69]++aC (e.st.st) 2++aC (e.st.mi) 1++[e.asked,e.got,e.order].flatMap (fun n=>aC n 8)++aC (e.size) 4++aC (e.sum) 4++aY [e.uri,e.var,e.st.r]) (by simp only[dU,List.length_cons,List.length_nil,aW]<;>omega) (e.names.length) 1 (by omega);generalize([69]++aC (e.st.st) 2++aC (e.st.mi) 1++[e.asked,e.got,e.order].flatMap (fun n=>aC n 8)++aC (e.size) 4++aC (e.sum) 4++aY [e.uri,e.var,e.st.r]++aC (e.names.length) 1)=X at hN⊢;generalize([69]++aC (e.st.st) 2++aC (e.st.mi) 1++[e.asked,e.got,e.order].flatMap (fun n=>aC n 8)++aC (e.size) 4++aC (e.sum) 4++aY [e.uri,e.var,e.st.r])=Y at hN⊢;simp;refine Da [1,0] hN ?_;simp;exact aB [(0,2)] (by simp)
 refine bM mixed (fun _:Unit=>True) (fun _=>[(1,.p (.ref (dI e))),(4,.obj 1 0)]) (fun _=>⟨[(1,Ae 0 ([69]++aC (e.st.st) 2++aC (e.st.mi) 1++[e.asked,e.got,e.order].flatMap (fun n=>aC n 8)++aC (e.size) 4++aC (e.sum) 4++aY [e.uri,e.var,e.st.r]++aC (e.names.length) 1++aY e.names)),(0,eG ([69]++aC (e.st.st) 2++aC (e.st.mi) 1++[e.asked,e.got,e.order].flatMap (fun n=>aC n 8)++aC (e.size) 4++aC (e.sum) 4++aY [e.uri,e.var,e.st.r]++aC (e.names.length) 1++aY e.names))],[],2⟩) ?_ (fun _ _=>?_)
 ·have hN:=u6 ([69]++aC (e.st.st) 2++aC (e.st.mi) 1++[e.asked,e.got,e.order].flatMap (fun n=>aC n 8)++aC (e.size) 4++aC (e.sum) 4++aY [e.uri,e.var,e.st.r]++aC (e.names.length) 1) e.names (by first|(have:=h.nl;omega)|simp) (by simp only[dU,List.length_cons,List.length_nil,aW];omega);generalize hX:([69]++aC (e.st.st) 2++aC (e.st.mi) 1++[e.asked,e.got,e.order].flatMap (fun n=>aC n 8)++aC (e.size) 4++aC (e.sum) 4++aY [e.uri,e.var,e.st.r]++aC (e.names.length) 1++aY e.names)=X at hN⊢;generalize([69]++aC (e.st.st) 2++aC (e.st.mi) 1++[e.asked,e.got,e.order].flatMap (fun n=>aC n 8)++aC (e.size) 4++aC (e.sum) 4++aY [e.uri,e.var,e.st.r]++aC (e.names.length) 1)=Y at hN⊢;simp;refine Da [1,0] hN ?_;simp;exact aB [(0,2)] (by simp)
 refine bM mixed (fun _:Unit=>True) (fun _=>[(1,.p (.ref (dI e))),(4,.obj 1 0)]) (fun _=>⟨[(1,Ae 0 ([69]++aC (e.st.st) 2++aC (e.st.mi) 1++[e.asked,e.got,e.order].flatMap (fun n=>aC n 8)++aC (e.size) 4++aC (e.sum) 4++aY [e.uri,e.var,e.st.r]++aC (e.names.length) 1++aY e.names++aC (e.fields.length) 1)),(0,eG ([69]++aC (e.st.st) 2++aC (e.st.mi) 1++[e.asked,e.got,e.order].flatMap (fun n=>aC n 8)++aC (e.size) 4++aC (e.sum) 4++aY [e.uri,e.var,e.st.r]++aC (e.names.length) 1++aY e.names++aC (e.fields.length) 1))],[],2⟩) ?_ (fun _ _=>?_)
 ·have hN:=ew ([69]++aC (e.st.st) 2++aC (e.st.mi) 1++[e.asked,e.got,e.order].flatMap (fun n=>aC n 8)++aC (e.size) 4++aC (e.sum) 4++aY [e.uri,e.var,e.st.r]++aC (e.names.length) 1++aY e.names) (by simp only[dU,List.length_cons,List.length_nil,aW]<;>omega) (e.fields.length) 1 (by omega);generalize([69]++aC (e.st.st) 2++aC (e.st.mi) 1++[e.asked,e.got,e.order].flatMap (fun n=>aC n 8)++aC (e.size) 4++aC (e.sum) 4++aY [e.uri,e.var,e.st.r]++aC (e.names.length) 1++aY e.names++aC (e.fields.length) 1)=X at hN⊢;generalize([69]++aC (e.st.st) 2++aC (e.st.mi) 1++[e.asked,e.got,e.order].flatMap (fun n=>aC n 8)++aC (e.size) 4++aC (e.sum) 4++aY [e.uri,e.var,e.st.r]++aC (e.names.length) 1++aY e.names)=Y at hN⊢;simp;refine Da [1,0] hN ?_;simp;exact aB [(0,2)] (by simp)
 refine bM mixed (fun _:Unit=>True) (fun _=>[(1,.p (.ref (dI e))),(4,.obj 1 0)]) (fun _=>⟨[(1,Ae 0 ([69]++aC (e.st.st) 2++aC (e.st.mi) 1++[e.asked,e.got,e.order].flatMap (fun n=>aC n 8)++aC (e.size) 4++aC (e.sum) 4++aY [e.uri,e.var,e.st.r]++aC (e.names.length) 1++aY e.names++aC (e.fields.length) 1++e.fields.flatMap (fun(f:Go.Av.Fd)=>aY [f.1,f.2]))),(0,eG ([69]++aC (e.st.st) 2++aC (e.st.mi) 1++[e.asked,e.got,e.order].flatMap (fun n=>aC n 8)++aC (e.size) 4++aC (e.sum) 4++aY [e.uri,e.var,e.st.r]++aC (e.names.length) 1++aY e.names++aC (e.fields.length) 1++e.fields.flatMap (fun(f:Go.Av.Fd)=>aY [f.1,f.2])))],[],2⟩) ?_ (fun _ _=>?_)
 ·have Ja:(e.fields).length<=1000000000:=by first|exact h.fl|(have:=h.bl;omega)|simp
  have pH:([69]++aC (e.st.st) 2++aC (e.st.mi) 1++[e.asked,e.got,e.order].flatMap (fun n=>aC n 8)++aC (e.size) 4++aC (e.sum) 4++aY [e.uri,e.var,e.st.r]++aC (e.names.length) 1++aY e.names++aC (e.fields.length) 1++e.fields.flatMap (fun(f:Go.Av.Fd)=>aY [f.1,f.2])).length<=1000000000:=by simp only[dU,List.length_cons,List.length_nil,aW];omega
  generalize([69]++aC (e.st.st) 2++aC (e.st.mi) 1++[e.asked,e.got,e.order].flatMap (fun n=>aC n 8)++aC (e.size) 4++aC (e.sum) 4++aY [e.uri,e.var,e.st.r]++aC (e.names.length) 1++aY e.names++aC (e.fields.length) 1)=Y at pH⊢;obtain⟨l,MS⟩:∃l,l=(e.fields):=⟨_,rfl⟩;rw[<-MS]at Ja pH;simp;refine aL (fun k:Nat=>k<=l.length) (fun k=>[(1,.p (.ref (dI e))),(4,.obj 1 0),(79,.p (.sl (l.map nX))),(80,.p (.int l.length)),(81,.p (.int k))]) (fun k=>⟨[(1,Ae 0 (Y++(l.take k).flatMap (fun(f:Go.Av.Fd)=>aY [f.1,f.2]))),(0,eG (Y++(l.take k).flatMap (fun(f:Go.Av.Fd)=>aY [f.1,f.2])))],[],2⟩) (fun k=>l.length-k) 0 (by simp) _ (AS.le_refl _ _) (ak (by simp[MS])) ?_;intro k hk;have hsp:l.flatMap (fun(f:Go.Av.Fd)=>aY [f.1,f.2])=(l.take k).flatMap (fun(f:Go.Av.Fd)=>aY [f.1,f.2])++(l.drop k).flatMap (fun(f:Go.Av.Fd)=>aY [f.1,f.2]):=by rw[<-List.flatMap_append,List.take_append_drop]
  by_cases ck:k<l.length
  ·have wk:=jq k;obtain⟨s,hs⟩:∃s,l[k]=s:=⟨_,rfl⟩;have hts:Y++(l.take (k+1)).flatMap (fun(f:Go.Av.Fd)=>aY [f.1,f.2])=(Y++(l.take k).flatMap (fun(f:Go.Av.Fd)=>aY [f.1,f.2]))++(fun(f:Go.Av.Fd)=>aY [f.1,f.2]) s:=by rw[iA ck,hs];simp
   have hbk:(Y++(l.take k).flatMap (fun(f:Go.Av.Fd)=>aY [f.1,f.2])).length+((fun(f:Go.Av.Fd)=>aY [f.1,f.2]) s).length<=1000000000:=by
    rw[<-dU,<-hts];have MT:l.flatMap (fun(f:Go.Av.Fd)=>aY [f.1,f.2])=(l.take (k+1)).flatMap (fun(f:Go.Av.Fd)=>aY [f.1,f.2])++(l.drop (k+1)).flatMap (fun(f:Go.Av.Fd)=>aY [f.1,f.2]):=by rw[<-List.flatMap_append,List.take_append_drop]
    rw[MT]at pH;simp only[dU]at pH⊢;omega
   generalize hZ:Y++(l.take (k+1)).flatMap (fun(f:Go.Av.Fd)=>aY [f.1,f.2])=Z at hts;generalize Y++(l.take k).flatMap (fun(f:Go.Av.Fd)=>aY [f.1,f.2])=X at hts hbk⊢;have hN:=u6 X [s.1,s.2] (by simp) (by omega);simp[ck,hs];refine Da [1,0] hN ?_;have Jz:Z=X++aY [s.1,s.2]:=hts;rw[<-Jz];simp[wk];exact⟨k+1,by omega,by omega,aB [(0,3)] (by simp[hZ])⟩
  ·obtain rfl:k=l.length:=by omega
   rw[List.take_length];simp;exact ak (by simp[MS])
 refine bM mixed (fun _:Unit=>True) (fun _=>[(1,.p (.ref (dI e))),(4,.obj 1 0)]) (fun _=>⟨[(1,Ae 0 ([69]++aC (e.st.st) 2++aC (e.st.mi) 1++[e.asked,e.got,e.order].flatMap (fun n=>aC n 8)++aC (e.size) 4++aC (e.sum) 4++aY [e.uri,e.var,e.st.r]++aC (e.names.length) 1++aY e.names++aC (e.fields.length) 1++e.fields.flatMap (fun(f:Go.Av.Fd)=>aY [f.1,f.2])++aC (e.body.length) 1)),(0,eG ([69]++aC (e.st.st) 2++aC (e.st.mi) 1++[e.asked,e.got,e.order].flatMap (fun n=>aC n 8)++aC (e.size) 4++aC (e.sum) 4++aY [e.uri,e.var,e.st.r]++aC (e.names.length) 1++aY e.names++aC (e.fields.length) 1++e.fields.flatMap (fun(f:Go.Av.Fd)=>aY [f.1,f.2])++aC (e.body.length) 1))],[],2⟩) ?_ (fun _ _=>?_)
 ·have hN:=ew ([69]++aC (e.st.st) 2++aC (e.st.mi) 1++[e.asked,e.got,e.order].flatMap (fun n=>aC n 8)++aC (e.size) 4++aC (e.sum) 4++aY [e.uri,e.var,e.st.r]++aC (e.names.length) 1++aY e.names++aC (e.fields.length) 1++e.fields.flatMap (fun(f:Go.Av.Fd)=>aY [f.1,f.2])) (by simp only[dU,List.length_cons,List.length_nil,aW]<;>omega) (e.body.length) 1 (by omega);generalize([69]++aC (e.st.st) 2++aC (e.st.mi) 1++[e.asked,e.got,e.order].flatMap (fun n=>aC n 8)++aC (e.size) 4++aC (e.sum) 4++aY [e.uri,e.var,e.st.r]++aC (e.names.length) 1++aY e.names++aC (e.fields.length) 1++e.fields.flatMap (fun(f:Go.Av.Fd)=>aY [f.1,f.2])++aC (e.body.length) 1)=X at hN⊢;generalize([69]++aC (e.st.st) 2++aC (e.st.mi) 1++[e.asked,e.got,e.order].flatMap (fun n=>aC n 8)++aC (e.size) 4++aC (e.sum) 4++aY [e.uri,e.var,e.st.r]++aC (e.names.length) 1++aY e.names++aC (e.fields.length) 1++e.fields.flatMap (fun(f:Go.Av.Fd)=>aY [f.1,f.2]))=Y at hN⊢;simp;refine Da [1,0] hN ?_;simp;exact aB [(0,2)] (by simp)
 refine bM mixed (fun _:Unit=>True) (fun _=>[(1,.p (.ref (dI e))),(4,.obj 1 0)]) (fun _=>⟨[(1,Ae 0 ([69]++aC (e.st.st) 2++aC (e.st.mi) 1++[e.asked,e.got,e.order].flatMap (fun n=>aC n 8)++aC (e.size) 4++aC (e.sum) 4++aY [e.uri,e.var,e.st.r]++aC (e.names.length) 1++aY e.names++aC (e.fields.length) 1++e.fields.flatMap (fun(f:Go.Av.Fd)=>aY [f.1,f.2])++aC (e.body.length) 1++e.body.flatMap (fun(x:Int×Int)=>aC x.1 4++aC x.2 4))),(0,eG ([69]++aC (e.st.st) 2++aC (e.st.mi) 1++[e.asked,e.got,e.order].flatMap (fun n=>aC n 8)++aC (e.size) 4++aC (e.sum) 4++aY [e.uri,e.var,e.st.r]++aC (e.names.length) 1++aY e.names++aC (e.fields.length) 1++e.fields.flatMap (fun(f:Go.Av.Fd)=>aY [f.1,f.2])++aC (e.body.length) 1++e.body.flatMap (fun(x:Int×Int)=>aC x.1 4++aC x.2 4)))],[],2⟩) ?_ (fun _ _=>?_)
 ·have Ja:(e.body).length<=1000000000:=by first|exact h.fl|(have:=h.bl;omega)|simp
  have pH:([69]++aC (e.st.st) 2++aC (e.st.mi) 1++[e.asked,e.got,e.order].flatMap (fun n=>aC n 8)++aC (e.size) 4++aC (e.sum) 4++aY [e.uri,e.var,e.st.r]++aC (e.names.length) 1++aY e.names++aC (e.fields.length) 1++e.fields.flatMap (fun(f:Go.Av.Fd)=>aY [f.1,f.2])++aC (e.body.length) 1++e.body.flatMap (fun(x:Int×Int)=>aC x.1 4++aC x.2 4)).length<=1000000000:=by simp only[dU,List.length_cons,List.length_nil,aW];omega
  generalize([69]++aC (e.st.st) 2++aC (e.st.mi) 1++[e.asked,e.got,e.order].flatMap (fun n=>aC n 8)++aC (e.size) 4++aC (e.sum) 4++aY [e.uri,e.var,e.st.r]++aC (e.names.length) 1++aY e.names++aC (e.fields.length) 1++e.fields.flatMap (fun(f:Go.Av.Fd)=>aY [f.1,f.2])++aC (e.body.length) 1)=Y at pH⊢;obtain⟨l,MS⟩:∃l,l=(e.body):=⟨_,rfl⟩;rw[<-MS]at Ja pH;simp;refine aL (fun k:Nat=>k<=l.length) (fun k=>[(1,.p (.ref (dI e))),(4,.obj 1 0),(99,.p (.sl (l.map kG))),(100,.p (.int l.length)),(101,.p (.int k))]) (fun k=>⟨[(1,Ae 0 (Y++(l.take k).flatMap (fun(x:Int×Int)=>aC x.1 4++aC x.2 4))),(0,eG (Y++(l.take k).flatMap (fun(x:Int×Int)=>aC x.1 4++aC x.2 4)))],[],2⟩) (fun k=>l.length-k) 0 (by simp) _ (AS.le_refl _ _) (ak (by simp[MS])) ?_;intro k hk;have hsp:l.flatMap (fun(x:Int×Int)=>aC x.1 4++aC x.2 4)=(l.take k).flatMap (fun(x:Int×Int)=>aC x.1 4++aC x.2 4)++(l.drop k).flatMap (fun(x:Int×Int)=>aC x.1 4++aC x.2 4):=by rw[<-List.flatMap_append,List.take_append_drop]
  by_cases ck:k<l.length
  ·have wk:=jq k;obtain⟨s,hs⟩:∃s,l[k]=s:=⟨_,rfl⟩;have hts:Y++(l.take (k+1)).flatMap (fun(x:Int×Int)=>aC x.1 4++aC x.2 4)=(Y++(l.take k).flatMap (fun(x:Int×Int)=>aC x.1 4++aC x.2 4))++(fun(x:Int×Int)=>aC x.1 4++aC x.2 4) s:=by rw[iA ck,hs];simp
   have hbk:(Y++(l.take k).flatMap (fun(x:Int×Int)=>aC x.1 4++aC x.2 4)).length+((fun(x:Int×Int)=>aC x.1 4++aC x.2 4) s).length<=1000000000:=by
    rw[<-dU,<-hts];have MT:l.flatMap (fun(x:Int×Int)=>aC x.1 4++aC x.2 4)=(l.take (k+1)).flatMap (fun(x:Int×Int)=>aC x.1 4++aC x.2 4)++(l.drop (k+1)).flatMap (fun(x:Int×Int)=>aC x.1 4++aC x.2 4):=by rw[<-List.flatMap_append,List.take_append_drop]
    rw[MT]at pH;simp only[dU]at pH⊢;omega
   generalize hZ:Y++(l.take (k+1)).flatMap (fun(x:Int×Int)=>aC x.1 4++aC x.2 4)=Z at hts;generalize Y++(l.take k).flatMap (fun(x:Int×Int)=>aC x.1 4++aC x.2 4)=X at hts hbk⊢;have hN:=ew X (by simp[aW]at hbk;omega) s.1 4 (by omega);have yj:=ew (X++aC s.1 4) (by simp[aW]at hbk⊢;omega) s.2 4 (by omega);simp[ck,hs];refine Da [1,0] hN ?_;have Jz:Z=X++aC s.1 4++aC s.2 4:=by rw[hts];simp
   generalize X++aC s.1 4=X2 at yj Jz⊢;simp;refine Da [1,3] yj ?_;rw[<-Jz];simp[wk];exact⟨k+1,by omega,by omega,aB [(0,4)] (by simp[hZ])⟩
  ·obtain rfl:k=l.length:=by omega
   rw[List.take_length];simp;exact ak (by simp[MS])
 have hP:[69]++aC (e.st.st) 2++aC (e.st.mi) 1++[e.asked,e.got,e.order].flatMap (fun n=>aC n 8)++aC (e.size) 4++aC (e.sum) 4++aY [e.uri,e.var,e.st.r]++aC (e.names.length) 1++aY e.names++aC (e.fields.length) 1++e.fields.flatMap (fun(f:Go.Av.Fd)=>aY [f.1,f.2])++aC (e.body.length) 1++e.body.flatMap (fun(x:Int×Int)=>aC x.1 4++aC x.2 4)=e.pack:=rfl;rw[hP];generalize e.pack=K at*;refine iH mixed ?_;by_cases c:8000<K.length
 ·have c':(8000:Int)<K.length:=by omega
  rw[if_pos c]at HK Jy;subst HK;subst Jy;simp[c',results229];exact⟨[],by simp⟩
 ·have c':¬(8000:Int)<K.length:=by omega
  rw[if_neg c]at HK Jy;subst HK;subst Jy;simp[c',results229];exact⟨[],by simp⟩
theorem RY(e:cZ)(h:e.Ok)(hb:e.pack.length<=1000000000):aq prog 229 [dI e] (.tp [cy e.yz.1,.int e.yz.2]):=by
 unfold cZ.yz;by_cases hr:e.right=true
 ·rw[if_pos hr];have hG:=MQ e h hr hb;by_cases c:8000<e.pack.length
  ·rw[if_pos c]at hG;rw[if_pos c];refine bI (xs:=[_]) hG ?_;simp[cQ,gY];rfl
  ·rw[if_neg c]at hG;rw[if_neg c];refine bI (xs:=[_]) hG ⟨rfl,yQ _ 2 0 e.pack (by simp[lk]) _ rfl,?_,trivial⟩;simp[cQ]
 ·have hr':e.right=false:=by simpa using hr
  rw[if_neg hr];refine ai (ys:=[_,_]) [14,16] [] [] func229 rfl ?_;simp;refine bS (xG e h) ?_;simp[hr',results229];rfl
@[reducible]def FE(b:List UInt8):Ob:=⟨359,1,[.p (cy b)]⟩
theorem Ep(b:List UInt8)(hb:b.length<=1000000000)(n:Nat)(hn:n<=b.length):aE prog 370 [.obj 0 0,.p (.int n)] ⟨[(0,FE b)],[],1⟩ (.p (cy (b.take n))) ⟨[(0,FE (b.drop n))],[],1⟩:=by
 have k1:List.take n (af b)=af (b.take n):=by simp[af]
 have k2:List.drop n (af b)=af (b.drop n):=by simp[af]
 have c:¬b.length<n:=by omega
 refine ah (rs:=[_]) [] [] [] func370 rfl ?_;simp[c,k1,k2,results370];exact⟨fun y hy=>(cF _ y hy).symm,hn,fun y hy=>(cF _ y hy).symm,hn,[],by simp⟩
theorem yO(b:List UInt8)(hb:b.length<=1000000000)(n:Nat)(hn:n<=b.length):aE prog 330 [.obj 0 0,.p (.int n)] ⟨[(0,FE b)],[],1⟩ (.p (.int (cq (b.take n)))) ⟨[(0,FE (b.drop n))],[],1⟩:=by
 have hT:=Ep b hb n hn;have hl:(b.take n).length=n:=by simp;omega
 generalize b.take n=t at hT hl⊢;generalize b.drop n=d at hT⊢;refine ah (rs:=[_]) [] [] [] func330 rfl ?_;simp;refine mC hT rfl ?_;have w00:IntKind.i64.wrap 0=0:=aD;simp;refine aL (fun k:Nat=>k<=t.length) (fun k=>[(10,.p (cy t)),(11,.p (.int t.length)),(12,.p (.int k)),(5,.p (.int (cq (t.take k))))]) (fun _=>⟨[(0,FE d)],[],1⟩) (fun k=>t.length-k) 0 (by simp) _ (AS.le_refl _ _) (ak (by simp[cq,jA,w00])) ?_;intro k hk;by_cases ck:k<t.length
 ·have w1:=jq k;have wx:IntKind.i64.wrap (t[k].toNat:Int)=(t[k].toNat:Int):=bf (by omega) (by have:=t[k].toNat_lt;omega);have ho:=yL (jA (t.take k)) t[k].toNat (t[k].toNat_lt);have hts:cq (t.take (k+1))=IntKind.i64.wrap ((jA (t.take k)*256+t[k].toNat:Nat):Int):=by
   unfold cq;rw[iA ck,kE]
  rw[<-hts]at ho;change bits .or .i64 (IntKind.i64.wrap (cq (t.take k)*2^min 8 IntKind.i64.bits)) _=_ at ho;simp[ck,w1,wx,ho,cH];exact⟨k+1,by omega,by omega,ak (by simp)⟩
 ·obtain rfl:k=t.length:=by omega
  simp[results330];exact⟨[],by simp⟩
theorem Nz(b:List UInt8)(hb:b.length<=1000000000)(n:Nat)(h2:2<=b.length)(hw:cq (b.take 2)=n)(hn:n+2<=b.length):aE prog 331 [.obj 0 0] ⟨[(0,FE b)],[],1⟩ (.p (.str ((b.drop 2).take n))) ⟨[(0,FE (b.drop (2+n)))],[],1⟩:=by
 have hN:=yO b hb 2 h2;have hT:=Ep (b.drop 2) (by simp;omega) n (by simp;omega);rw[hw]at hN;rw[List.drop_drop]at hT;refine ah (rs:=[_]) [] [] [] func331 rfl ?_;simp;refine mC hN rfl ?_;simp;refine mC hT rfl ?_;simp[results331];exact⟨[],by simp⟩
end Go.Av
namespace Go.aT
structure Kn where
 key:List UInt8
 order:Int
 place:Int
 body:List (Int×Int)
def Kn.eJ(k:Kn):Int×Int:=(k.place/256,k.place%256)
def esz(l:List (Int×Int)):Int:=(l.map fun x=>x.2*64).sum
def Ns(a b:List UInt8):Int:=if Op.bytesLess a b=true then-1 else if a=b then 0 else 1
def Ci(f:Nat->Int):Nat->Nat->Nat->Nat
 |0,i,_=>i
 |n+1,i,j=>if i<j then(if f ((i+j)/2)<0 then Ci f n ((i+j)/2+1) j else Ci f n i ((i+j)/2))else i
end Go.aT
namespace Go.Av
open Go.Proofs Go.Proofs.Tryz Go.aT
abbrev RS(k:Kn):PC:= .agg false [.str k.key,.int k.order,.int k.place,.sl (k.body.map kG)]
theorem OI(k:Kn)(h:0<=k.place/\k.place<=1000000000):aq prog 63 [RS k] (kG k.eJ):=by
 have q1:k.place.tdiv 256=k.place/256:=Int.tdiv_eq_ediv_of_nonneg h.1;have q2:k.place.tmod 256=k.place%256:=Int.tmod_eq_emod_of_nonneg h.1;have w1:IntKind.i64.wrap (k.place/256)=k.place/256:=aD;have w2:IntKind.i64.wrap (k.place%256)=k.place%256:=aD;refine ai (ys:=[_]) [] [] [] func63 rfl ?_;simp[q1,q2,w1,Kn.eJ,results63]
theorem OJ(a:List UInt8):aq prog 249 [.str a] (.bool false):=by
 refine ai (ys:=[_]) [] [] [] func249 rfl ?_;simp[bne,results249]
theorem XO(a b:List UInt8):aq prog 156 [.str a,.str b] (.int (Ns a b)):=by
 refine ai (ys:=[_]) [] [] [] func156 rfl ?_;simp;refine bS (OJ a) ?_;simp;refine bS (OJ b) ?_;unfold Ns;cases c1:Op.bytesLess a b with
 |true=>simp[c1,results156]
 |false=>
  by_cases c2:a=b
  ·subst c2;simp[c1,results156]
  ·have dM:(a==b)=false:=by simpa using c2
   simp[c1,c2,dM,results156]
theorem adu(k:Kn)(key:List UInt8):aq prog 155 [RS k,.str key] (.int (Ns k.key key)):=by
 refine ai (ys:=[_]) [] [] [] func155 rfl ?_;simp;refine bS (XO k.key key) ?_;simp[results155]
end Go.Av
namespace Go.Av
open Go.Proofs Go.Proofs.Tryz
theorem Xa:dP prog 268:=⟨Tryz.f268,func268,by kernel_rfl,by kernel_rfl⟩
theorem N6(nx id:Nat)(hid:id<nx)(cs:List PC)(n i j:Nat)(hn:cs.length=n*2)(hij:i<=j)(hj:j<=n)(hb:n<=1000000000000):aE prog 268 [.view id 0 n 2 none,.p (.int i),.p (.int j)] ⟨[(id,⟨157,2,cs.map .p⟩)],[],nx⟩ (.view nx 0 (n-(j-i)) 2 none) ⟨[(nx,⟨157,2,(cs.take (i*2)++cs.drop (j*2)).map .p⟩)],[],nx+1⟩:=by
 have hne:¬id=nx:=by omega
 have eX:¬nx=id:=by omega
 have iB:(cs.map AV.p).length=n*2:=by simp;omega
 refine kH (pre:=[]) (post:=[_,_]) Xa (fun c h1 h2 h3=>?_) ?_
 ·refine ah (rs:=[_]) [] [(5,[(6,.w [])])] [] func268 rfl ?_;generalize hA:cs.map AV.p=A at*;by_cases c0:i=j
  ·subst c0;have hd:List.take (i*2) A++List.drop (i*2) A=A:=List.take_append_drop _ _;simp[results268,hne,eX];exact⟨hj,[(nx,id)],by simp[hA]⟩
  ·have e0:((i:Int)==(j:Int))=false:=by rw[beq_eq_false_iff_ne];omega
   have t1:((i:Int)+((n-j:Nat):Int)).toNat=i+(n-j):=by omega
   have key:∀R,List.take ((i+(n-j))*2) (List.take (i*2) A++(List.take ((n-j)*2) (List.drop (j*2) A)++R))=List.take (i*2) A++List.drop (j*2) A:=fun R=>by
    have:=Cr (R:=R) (n:=n*2) (i:=i*2) (j:=j*2) (k:=(i+(n-j))*2) iB (by omega) (by omega) (by omega);rw[<-Nat.sub_mul]at this;exact this
   simp[e0,t1,results268,hne,eX]
   repeat' refine And.intro ?_ ?_
   all_goals first|omega|skip
   refine .inl ?_
   repeat' refine And.intro ?_ ?_
   all_goals first|omega|(simp;omega)|skip
   refine⟨[(nx,id)],?_⟩;simp[hA,key];omega
 ·intro hn0;have Lv:i=0:=by omega
  have hj0:j=0:=by omega
  have hc0:cs=[]:=mB (by omega);subst Lv;subst hj0;subst hc0;subst hn0;refine fG (r:= .full []) (aM:=⟨[],[],nx⟩) (el:=157) (s:=2) ?_ trivial;refine ah (rs:=[_]) [] [(5,[(6,.w [])])] [] func268 rfl ?_;simp[results268]
  repeat' refine And.intro ?_ ?_
  all_goals first|omega|exact⟨[],by simp⟩|simp
theorem Xb:J_ prog 336:=⟨Tryz.f336,47,4,157,func336,by kernel_rfl,by kernel_rfl,by kernel_rfl,by kernel_rfl,by kernel_rfl,by kernel_rfl⟩
theorem Xc:dP prog 269:=⟨Tryz.f269,func269,by kernel_rfl,by kernel_rfl⟩
abbrev kF(e:Nat×Nat):PC:= .agg false [.int e.1,.int e.2]
theorem Ka{A V Z R:List AV}{n i k:Nat}(hA:A.length=n*2)(hi:i<=n)(hV:V.length=2)(hZ:2<=Z.length)(hk:k=(n-i)*2):List.take ((i+1)*2) (bB ((i+1)*2) (List.take (i*2) (bB (i*2) (List.take (i*2) A++Z))++(V++List.drop (i*2+2) (bB (i*2) (List.take (i*2) A++Z)))))++(List.take k (List.drop (i*2) A)++R)=List.take (i*2) A++(V++(List.drop (i*2) A++R)):=by
 have h1:(List.take (i*2) A).length=i*2:=by simp;omega
 have h2:List.take k (List.drop (i*2) A)=List.drop (i*2) A:=fY (by simp;omega);rw[h2];generalize List.take (i*2) A=P at*;rw[eU (k:=i*2) (by simp;omega),List.take_left' h1];have h3:List.drop (i*2+2) (P++Z)=List.drop 2 Z:=by rw[List.drop_append,h1,List.drop_of_length_le (by omega)];simp
 rw[h3,eU (by simp;omega),<-List.append_assoc P V,List.take_left' (by simp;omega)];simp
theorem Kb{A V:List AV}{n i k:Nat}(hA:A.length=n*2)(hi:i<n)(hV:V.length=2)(hk:k=(n-i)*2):List.take (i*2) (bB (i*2) (List.take ((i+1)*2) (bB ((i+1)*2) A)++(List.take k (List.drop (i*2) (bB ((i+1)*2) A))++List.drop ((i+1)*2+k) (bB ((i+1)*2) A))))++(V++List.drop (i*2+2) (bB (i*2) (List.take ((i+1)*2) (bB ((i+1)*2) A)++(List.take k (List.drop (i*2) (bB ((i+1)*2) A))++List.drop ((i+1)*2+k) (bB ((i+1)*2) A)))))=List.take (i*2) A++(V++List.drop (i*2) A):=by
 have e1:bB ((i+1)*2) A=A:=eU (by omega);have e2:List.take k (List.drop (i*2) A)=List.drop (i*2) A:=fY (by simp;omega);have e3:List.drop ((i+1)*2+k) A=[]:=List.drop_of_length_le (by omega);rw[e1,e2,e3,List.append_nil];have l1:(List.take ((i+1)*2) A).length=(i+1)*2:=by simp;omega
 rw[eU (by simp;omega)];congr 1
 ·rw[List.take_append_of_le_length (by omega),List.take_take,Nat.min_eq_left (by omega)]
 ·congr 1;rw[List.drop_append,l1,List.drop_of_length_le (by omega),show i*2+2-(i+1)*2=0 by omega];simp
theorem N7(nx id:Nat)(hid:id<nx)(cs:List PC)(n i:Nat)(e:Nat×Nat)(hn:cs.length=n*2)(hi:i<=n)(hb:n<=1000000000000):aE prog 269 [.view id 0 n 2 none,.p (.int i),.p (.sl [kF e])] ⟨[(id,⟨157,2,cs.map .p⟩)],[],nx⟩ (.view nx 0 (n+1) 2 none) ⟨[(nx,⟨157,2,(cs.take (i*2)++[PC.int e.1,PC.int e.2]++cs.drop (i*2)).map .p⟩)],[],nx+1⟩:=by
 have hne:¬id=nx:=by omega
 refine kH (pre:=[]) (post:=[_,_]) Xc (fun c h1 h2 h3=>?_) ?_
 ·have hwr:∀k:Int,0<=k->k<=4000000000000->IntKind.i64.wrap k=k:=fun k h1 h2=>aD;refine ah (rs:=[_]) [] [(11,[(8,.w [])]),(15,[(8,.w [])])] [] func269 rfl ?_;have w1:IntKind.i64.wrap ((n:Int)+1)=(n:Int)+1:=hwr _ (by omega) (by omega);have w2:IntKind.i64.wrap ((n:Int)+1-(i:Int))=(n:Int)+1-(i:Int):=hwr _ (by omega) (by omega);have w3:IntKind.i64.wrap ((i:Int)+1)=(i:Int)+1:=hwr _ (by omega) (by omega);have t1:((n:Int)+1).toNat=n+1:=by omega
  have t2:((n:Int)+1-(i:Int)).toNat=n+1-i:=by omega
  have t3:((i:Int)+1).toNat=i+1:=by omega
  have eX:¬nx=id:=by omega
  by_cases c1:i=n
  ·subst c1;have hcs:List.drop (i*2) (cs.map AV.p)=[]:=List.drop_of_length_le (by simp;omega);simp[results269,h1,hne,eX,hcs];refine⟨by omega,?_⟩;rcases Nat.lt_or_ge c (i+1)with h|h
   ·exact .inr ⟨by omega,by omega,by omega,[],by simp⟩
   ·exact .inl ⟨h,[(nx,id)],by simp⟩
  ·have e1:((i:Int)==(n:Int))=false:=by rw[beq_eq_false_iff_ne];omega
   have iB:(cs.map AV.p).length=n*2:=by simp;omega
   by_cases c2:c<n+1
   ·have e2:(decide ((c:Int)<(n:Int)+1))=true:=by simp;omega
    generalize hA:cs.map AV.p=A at*;have m1:Nat.min 1 (n+1-i)=1:=Nat.min_eq_left (by omega);have m2:(n-i).min (i+(n+1-i)-(i+1))=n-i:=Nat.min_eq_left (by omega);have key:=fun R=>Ka (V:=[.p (.int e.1),.p (.int e.2)]) (R:=R) (Z:=List.map AV.p (fW (n+1-i) [.sc (.int .i64 0),.sc (.int .i64 0)])) iB hi rfl (by simp[qw];omega) rfl;simp at key;simp[e1,w1,e2,w2,w3,t1,t2,t3,results269,hi,h1,hne,eX,m1,m2,key]
    repeat' refine And.intro ?_ ?_
    all_goals first|omega|skip
    refine⟨[],?_⟩;simp[hA];omega
   ·have e2:(decide ((c:Int)<(n:Int)+1))=false:=by simp;omega
    generalize hA:cs.map AV.p=A at*;simp[e1,w1,e2,w2,w3,t1,t2,t3,results269,hi,h1,hne,eX];refine⟨by omega,by omega,by omega,by omega,tf Xb (.inr rfl) (ob:=⟨157,2,A⟩) (by simp) rfl (by omega) (by simp) (by simp[tg]) ?_⟩;have m1:Nat.min 1 (n+1-i)=1:=Nat.min_eq_left (by omega);have m4:(n+1-i).min (n-i)=n-i:=Nat.min_eq_right (by omega);have key:=Kb (V:=[.p (.int e.1),.p (.int e.2)]) iB (by omega:i<n) rfl rfl;simp at key;simp[e1,w1,e2,w2,w3,t1,t2,t3,results269,hi,h1,hne,eX,m1,m4,key]
    repeat' refine And.intro ?_ ?_
    all_goals first|omega|(rw[eN];omega)|skip
    exact⟨[(nx,id)],by simp[hA]⟩
 ·intro hn0;have Lv:i=0:=by omega
  have hc0:cs=[]:=mB (by omega);subst Lv;subst hc0;subst hn0;refine ah (rs:=[_]) [25] [(11,[(8,.w [])]),(15,[(8,.w [])])] [] func269 rfl ?_;simp[results269];exact⟨[],by simp⟩
abbrev Ext:=Nat×Nat
abbrev kn(L:List Ext):PC:= .sl (L.map kF)
theorem IW(x:Int):aq prog 201 [.int x] (.bool false):=by
 refine ai (ys:=[_]) [] [] [] func201 rfl ?_;simp[results201]
theorem zD{n:Int}(h1:0<=n)(h2:n<=18446744073709551615):IntKind.u64.wrap n=n:=by
 have e:IntKind.u64.wrap n=n%18446744073709551616:=rfl;rw[e];omega
def Au(x y:Int):Int:=if x<y then-1 else if y<x then 1 else 0
theorem Lc(x y:Int):aq prog 110 [.int x,.int y] (.int (Au x y)):=by
 refine ai (ys:=[_]) [] [] [] func110 rfl ?_;simp;refine bS (IW x) ?_;simp;refine bS (IW y) ?_;by_cases h:x<y
 ·simp[h,results110,Au]
 ·by_cases h2:y<x
  ·simp[h,h2,results110,Au]
  ·simp[h,h2,results110,Au]
theorem IX(e:Ext)(t:Nat)(h1:e.1+e.2<=1000000)(h2:t<=1000000):aq prog 335 [kF e,.int t] (.int (Au ((e.1:Int)+(e.2:Int)) ((t:Int)+1))):=by
 have w1:IntKind.i64.wrap ((e.1:Int)+(e.2:Int))=((e.1+e.2:Nat):Int):=by rw[aD];simp
 have w2:IntKind.i64.wrap ((t:Int)+1)=((t+1:Nat):Int):=by rw[aD];simp
 refine ai (ys:=[_]) [] [] [] func335 rfl ?_;simp[w1,w2];refine bS (Lc ((e.1:Int)+(e.2:Int)) ((t:Int)+1)) ?_;simp[results335]
def iM(L:List Ext)(t:Nat):Nat:=(L.takeWhile fun e=>decide (e.1+e.2<=t)).length
def Up(L:List Ext):Prop:=L.Pairwise fun a b=>a.1+a.2<=b.1+b.2
theorem afG{L:List Ext}(h:Up L){p q:Nat}(hpq:p<=q)(hq:q<L.length):L[p].1+L[p].2<=L[q].1+L[q].2:=by
 by_cases e:p=q
 ·subst e;exact Nat.le_refl _
 ·exact List.pairwise_iff_getElem.1 h p q (by omega) hq (by omega)
theorem LW(L:List Ext)(t:Nat):iM L t<=L.length:=by unfold iM;exact(List.takeWhile_prefix _).length_le
theorem NV{L:List Ext}{t i:Nat}(hi:i<=L.length)(h1:∀p (hp:p<L.length),p<i->L[p].1+L[p].2<=t)(h2:∀(hp:i<L.length),t<L[i].1+L[i].2):iM L t=i:=by
 induction L generalizing i with
 |nil=>simp at hi;subst hi;rfl
 |cons a L ih=>
  cases i with
  |zero=>
   have:=h2 (by simp);simp only[List.getElem_cons_zero]at this;have h:decide (a.1+a.2<=t)=false:=by simp;omega
   simp[iM,h]
  |succ i=>
   have ha:=h1 0 (by simp) (by omega);simp at ha;have:=ih (i:=i) (by simpa using hi) (fun p hp hpi=>by have:=h1 (p+1) (by simp;omega) (by omega);simpa using this) (fun hp=>by have:=h2 (by simp;omega);simpa using this);simp[iM,ha]at this⊢;exact this
theorem P5(L:List Ext)(t:Nat)(hL:Up L)(hl:L.length<=1000000)(hb:∀e∈L,e.1+e.2<=1000000)(ht:t<=1000000):aq prog 334 [kn L,.int t,.fn (.func 335) []] (.tp [.int (iM L t),.bool (decide (∃h:iM L t<L.length,L[iM L t].1+L[iM L t].2=t+1))]):=by
 refine ai (ys:=[_,_]) [] [] [] func334 rfl ?_;simp;refine bg (fun ij:Nat×Nat=>ij.1<=ij.2/\ij.2<=L.length/\(∀p (hp:p<L.length),p<ij.1->L[p].1+L[p].2<=t)/\(∀(hp:ij.2<L.length),t<L[ij.2].1+L[ij.2].2)) (fun ij=>[(0,.p (kn L)),(1,.p (.int t)),(2,.p (.fn (.func 335) [])),(8,.p (.int L.length)),(9,.p (.int ij.1)),(10,.p (.int ij.2))]) (fun ij=>ij.2-ij.1) (0,L.length) (by simp) (ak (by simp)) ?_;rintro⟨i,j⟩ ⟨h1,h2,h3,h4⟩;simp only at h1 h2 h3 h4;by_cases c:i<j
 ·obtain⟨h,hh⟩:∃h,h=(i+j)/2:=⟨_,rfl⟩;have w0:IntKind.i64.wrap ((i:Int)+(j:Int))=((i+j:Nat):Int):=by rw[aD];simp
  have hm:h<L.length:=by omega
  have wm:IntKind.i64.wrap ((IntKind.u64.wrap ((i:Int)+(j:Int))).fdiv (2^min 1 IntKind.u64.bits))=(h:Int):=by
   have e1:IntKind.u64.wrap ((i:Int)+(j:Int))=((i+j:Nat):Int):=by exact zD (by omega) (by omega)
   have e2:(2:Int)^min 1 IntKind.u64.bits=2:=rfl;rw[e1,e2,Int.fdiv_eq_ediv_of_nonneg _ (by omega),hh,aD];simp
  simp[c,w0,wm,hm];refine bS (IX L[h] t (hb _ (by simp)) ht) ?_;by_cases c2:L[h].1+L[h].2<=t
  ·have e2:decide (Au ((L[h].1:Int)+(L[h].2:Int)) ((t:Int)+1)<0)=true:=by
    have:(L[h].1:Int)+(L[h].2:Int)<(t:Int)+1:=by omega
    simp[Au,this]
   simp[e2];refine⟨h+1,j,⟨by omega,h2,?_,h4⟩,by omega,ak ?_⟩
   ·intro p hp hph;have:=afG hL (p:=p) (q:=h) (by omega) hm;omega
   ·simp[aD (n:=(h:Int)+1)]
  ·have e2:decide (Au ((L[h].1:Int)+(L[h].2:Int)) ((t:Int)+1)<0)=false:=by
    have:¬(L[h].1:Int)+(L[h].2:Int)<(t:Int)+1:=by omega
    simp only[Au,this,if_false];split<;>rfl
   simp[e2];exact⟨i,h,⟨by omega,by omega,h3,fun _=>by omega⟩,by omega,ak (by simp)⟩
 ·have e:i=j:=by omega
  subst e;have ea:iM L t=i:=NV h2 h3 h4;by_cases c2:i<L.length
  ·simp[c2];refine bS (IX L[i] t (hb _ (by simp)) ht) ?_;simp[results334,ea,c2];rw[Bool.eq_iff_iff];simp only[decide_eq_true_eq,beq_iff_eq,Au];split
   ·constructor<;>intro<;>omega
   ·split
    ·constructor<;>intro<;>omega
    ·constructor<;>intro<;>omega
  ·simp[c2,results334,ea]
theorem xO(L:List Ext)(t:Nat)(hL:Up L)(hl:L.length<=1000000)(hb:∀e∈L,e.1+e.2<=1000000)(ht:t<=1000000):aq prog 267 [kn L,.int t] (.int (iM L t)):=by
 refine ai (ys:=[_]) [] [] [] func267 rfl ?_;simp;refine bS (P5 L t hL hl hb ht) ?_;simp[results267]
def Aa(L:List Ext):Nat:=(L.map (·.2)).sum
theorem P6{L:List Ext}{k:Nat}(h:k<L.length):Aa (L.take (k+1))=Aa (L.take k)+L[k].2:=by
 unfold Aa;rw[iA h,List.map_append,List.sum_append];simp
theorem ZA{L:List Ext}(hb:∀e∈L,e.2<=1000000):Aa L<=L.length*1000000:=by
 unfold Aa
 induction L with
 |nil=>simp
 |cons a L ih=>
  have:=ih fun e he=>hb e (by simp[he]);have:=hb a (by simp);simp;omega
theorem V1(L:List Ext)(hl:L.length<=1000000)(hb:∀e∈L,e.2<=1000000):aq prog 188 [kn L] (.int (Aa L)):=by
 refine ai (ys:=[_]) [] [] [] func188 rfl ?_;simp;refine bg (fun k:Nat=>k<=L.length) (fun k=>[(6,.p (kn L)),(7,.p (.int L.length)),(8,.p (.int k)),(3,.p (.int (Aa (L.take k))))]) (fun k=>L.length-k) 0 (by simp) (ak (by simp[Aa])) ?_;intro k hk;by_cases c:k<L.length
 ·have b1:=ZA (L:=L.take k) fun e he=>hb e (jH he);simp at b1;have b2:=hb L[k] (by simp);have b3:min k L.length*1000000<=1000000*1000000:=Nat.mul_le_mul_right _ (by omega);have w:IntKind.i64.wrap ((Aa (L.take k):Int)+(L[k].2:Int))=(Aa (L.take (k+1)):Int):=by
   rw[P6 c,aD];simp
  simp[c];refine⟨k+1,by omega,by omega,ak ?_⟩;simp[w,aD (n:=(k:Int)+1)]
 ·have e:k=L.length:=by omega
  subst e;simp[results188]
def uO(L:List Ext)(e:Ext):Bool:=match L[iM L e.1]? with
 |some x=>decide (x.1<e.1+e.2)
 |none=>false
def hasB(L:List Ext)(e:Ext):Bool:=match L[iM L e.1]? with
 |some x=>decide (x.1<=e.1)&&decide (e.1+e.2<=x.1+x.2)
 |none=>false
theorem CO(L:List Ext)(e:Ext)(hL:Up L)(hl:L.length<=1000000)(hb:∀e∈L,e.1+e.2<=1000000)(he:e.1+e.2<=1000000):aq prog 246 [kn L,kF e] (.bool (uO L e)):=by
 have w1:IntKind.i64.wrap ((e.1:Int)+(e.2:Int))=(e.1:Int)+(e.2:Int):=aD;refine ai (ys:=[_]) [] [] [] func246 rfl ?_;simp;refine bS (xO L e.1 hL hl hb (by omega)) ?_;unfold uO;generalize iM L e.1=i;by_cases c:i<L.length
 ·simp[c,w1,results246];omega
 ·simp[c,results246]
theorem ad7(L:List Ext)(e:Ext)(hL:Up L)(hl:L.length<=1000000)(hb:∀e∈L,e.1+e.2<=1000000)(he:e.1+e.2<=1000000):aq prog 264 [kn L,kF e] (.bool (hasB L e)):=by
 have w1:IntKind.i64.wrap ((e.1:Int)+(e.2:Int))=(e.1:Int)+(e.2:Int):=aD;refine ai (ys:=[_]) [] [] [] func264 rfl ?_;simp;refine bS (xO L e.1 hL hl hb (by omega)) ?_;unfold hasB;generalize iM L e.1=i;by_cases c:i<L.length
 ·have b:=hb L[i] (by simp);have w2:IntKind.i64.wrap ((L[i].1:Int)+(L[i].2:Int))=(L[i].1:Int)+(L[i].2:Int):=aD;by_cases c2:L[i].1<=e.1
  ·simp[c,c2,w1,w2,results264];omega
  ·simp[c,c2,w1,w2,results264]
 ·simp[c,results264]
def cV(L:List Ext):List PC:=L.flatMap fun e=>[PC.int e.1,PC.int e.2]
abbrev cg(L:List Ext):Ob:=⟨157,2,(cV L).map .p⟩
@[simp]theorem Zv:cV []=[]:=rfl
theorem dB(e:Ext)(L:List Ext):cV (e::L)=PC.int e.1::PC.int e.2::cV L:=rfl
theorem rZ(L M:List Ext):cV (L++M)=cV L++cV M:=by simp[cV]
@[simp]theorem Zw(L:List Ext):(cV L).length=L.length*2:=by
 induction L with
 |nil=>rfl
 |cons a L ih=>simp[ih,dB];omega
theorem wW(L:List Ext):∀i,(cV L).take (i*2)=cV (L.take i):=by
 induction L with
 |nil=>intro i;simp
 |cons a L ih=>
  intro i;cases i with
  |zero=>simp
  |succ i=>rw[show(i+1)*2=i*2+1+1 by omega];simp[ih,dB]
theorem nH(L:List Ext):∀i,(cV L).drop (i*2)=cV (L.drop i):=by
 induction L with
 |nil=>intro i;simp
 |cons a L ih=>
  intro i;cases i with
  |zero=>simp
  |succ i=>rw[show(i+1)*2=i*2+1+1 by omega];simp[ih,dB]
theorem Az{L:List Ext}{i:Nat}(h:i<L.length):(cV L)[i*2]?=some (.int L[i].1)/\(cV L)[i*2+1]?=some (.int L[i].2):=by
 induction L generalizing i with
 |nil=>simp at h
 |cons a L ih=>
  cases i with
  |zero=>simp[dB]
  |succ i=>rw[show(i+1)*2=i*2+1+1 by omega];simpa[dB]using ih (by simpa using h)
theorem He(L:List Ext):(L.map kF).flatMap ga=cV L:=by
 induction L with
 |nil=>rfl
 |cons a L ih=>simp[ih,dB]
theorem jM{bx:List (Nat×Ob)}{k id n:Nat}{c:Option Nat}{L:List Ext}(h:lk id bx=some (cg L))(hn:n=L.length):cQ bx (k+1) (.view id 0 n 2 c) (kn L):=by
 subst hn;refine⟨_,h,by omega,by simp,by simp,?_,?_,?_⟩
 ·rw[sZ,He];simp;exact fY (by simp)
 ·intro y hy;obtain⟨e,_,rfl⟩:=List.mem_map.1 hy;rfl
 ·intro y hy;obtain⟨e,_,rfl⟩:=List.mem_map.1 hy;rfl
theorem sO{L:List Ext}{k n:Nat}(h:k<L.length):(cV L).take (k*2+1)++PC.int n::(cV L).drop (k*2+1+1)=cV (L.take k++(L[k].1,n)::L.drop (k+1)):=by
 induction L generalizing k with
 |nil=>simp at h
 |cons a L ih=>
  cases k with
  |zero=>simp[dB]
  |succ k=>
   have:=ih (k:=k) (by simpa using h);rw[show(k+1)*2+1=k*2+1+1+1 by omega];simp[dB,this]
theorem pz(nx id:Nat)(hid:id<nx)(L:List Ext)(i:Nat)(hi:i<L.length)(hb:L.length<=1000000):aE prog 268 [.view id 0 L.length 2 none,.p (.int i),.p (.int ((i:Int)+1))] ⟨[(id,cg L)],[],nx⟩ (.view nx 0 (L.length-1) 2 none) ⟨[(nx,cg (L.take i++L.drop (i+1)))],[],nx+1⟩:=by
 have:=N6 nx id hid (cV L) L.length i (i+1) (by simp) (by omega) (by omega) (by omega);rw[wW,nH,<-rZ,show L.length-(i+1-i)=L.length-1 by omega]at this;exact this
theorem kW(nx id:Nat)(hid:id<nx)(L:List Ext)(i:Nat)(e:Ext)(hi:i<=L.length)(hb:L.length<=1000000):aE prog 269 [.view id 0 L.length 2 none,.p (.int i),.p (.sl [kF e])] ⟨[(id,cg L)],[],nx⟩ (.view nx 0 (L.length+1) 2 none) ⟨[(nx,cg (L.take i++e::L.drop i))],[],nx+1⟩:=by
 have:=N7 nx id hid (cV L) L.length i e (by simp) hi (by omega);rw[wW,nH,List.append_assoc]at this;rw[show cg (L.take i++e::L.drop i)=⟨157,2,(cV (L.take i)++([PC.int e.1,PC.int e.2]++cV (L.drop i))).map .p⟩ by simp[cg,rZ,dB]];exact this
def sX(L:List Ext)(e:Ext):Bool:=match L[iM L e.1]? with
 |some x=>decide (e.1+e.2=x.1)
 |none=>false
def jK(L:List Ext)(e:Ext):List Ext:=if sX L e=true then L.take (iM L e.1)++L.drop (iM L e.1+1)else L
def BM(L:List Ext)(e:Ext):Ext:=if sX L e=true then(e.1,e.2+(L.getD (iM L e.1) (0,0)).2)else e
def jJ(M:List Ext)(i:Nat)(e:Ext):List Ext:=match i with
 |0=>e::M
 |k+1=>if(M.getD k (0,0)).1+(M.getD k (0,0)).2=e.1 then M.take k++((M.getD k (0,0)).1,(M.getD k (0,0)).2+e.2)::M.drop (k+1)else M.take (k+1)++e::M.drop (k+1)
def gy(L:List Ext)(e:Ext):List Ext:=jJ (jK L e) (iM L e.1) (BM L e)
theorem HR(nx id dX:Nat)(hid:id<nx)(aks:dX<nx)(hne:id≠dX)(el sz off:Nat)(xs:List AV)(L:List Ext)(e:Ext)(hx:xs[off]?=some (.view dX 0 L.length 2 none))(hxl:AV.fD.eM nx xs=true)(hL:Up L)(hl:L.length<=65536)(hb:∀e∈L,e.1+e.2<=100000)(he:e.1+e.2<=100000):aE prog 176 [.obj id off,.p (kF e)] ⟨[(id,⟨el,sz,xs⟩),(dX,cg L)],[],nx⟩ (.agg true []) ⟨[(id,⟨el,sz,xs.take off++ .view nx 0 (gy L e).length 2 none::xs.drop (off+1)⟩),(nx,cg (gy L e))],[],nx+1⟩:=by
 have w1:IntKind.i64.wrap ((e.1:Int)+(e.2:Int))=(e.1:Int)+(e.2:Int):=aD;obtain⟨n1,n2,n3,n4,n5,n6,n7,n8,n9,fc,fe,uH⟩:¬id=nx/\¬dX=nx/\¬nx=id/\¬nx=dX/\¬dX=id/\¬id=nx+1/\¬nx+1=id/\¬dX=nx+1/\¬nx+1=dX/\¬id=nx+1+1/\¬nx+1+1=id/\id<nx+1:=by and_intros<;>omega
 have hoff:off<xs.length:=by
  rcases Nat.lt_or_ge off xs.length with h|h
  ·exact h
  ·rw[List.getElem?_eq_none h]at hx;cases hx
 have ha:=xO L e.1 hL (by omega) (fun e he=>by have:=hb e he;omega) (by omega);have ama:=LW L e.1;have hr:∀k,AV.ren.dm (uM [(nx,k)]) xs=xs:=fun k=>lq (nx:=nx) (by simp) xs hxl;have IK:∀k,nx<=k->AV.fD.eM k xs=true:=fun k hk=>mQ hk xs hxl;have IL:∀bx,lk dX bx=some (cg L)->cQ bx 4 (.view dX 0 L.length 2 none) (kn L):=fun bx h=>jM h rfl;have hat:∀(M:List Ext) (k:Nat) (h:k<M.length),(cV M)[k*2]?=some (.int M[k].1)/\(cV M)[k*2+1]?=some (.int M[k].2)/\(∀h',(cV M)[k*2]'h'= .int M[k].1)/\(∀h',(cV M)[k*2+1]'h'= .int M[k].2):=by
  intro M k h;have h1:=Az h;exact⟨h1.1,h1.2,fun h'=>by have:=h1.1;rw[kq h']at this;injection this,fun h'=>by have:=h1.2;rw[kq h']at this;injection this⟩
 have hN:gy L e=jJ (jK L e) (iM L e.1) (BM L e):=rfl;generalize gy L e=N at*;generalize hi:iM L e.1=i at*;by_cases c:i<L.length
 ·have g:=hat L i c;by_cases jr:e.1+e.2=L[i].1
  ·have hj:sX L e=true:=by unfold sX;rw[hi];simp[c,jr]
   have LL:jK L e=L.take i++L.drop (i+1):=by unfold jK;rw[if_pos hj,hi]
   have hE:BM L e=(e.1,e.2+L[i].2):=by unfold BM;rw[if_pos hj,hi];simp[c]
   rw[hE]at hN;generalize jK L e=M at*;have Zx:=LL.symm;have VH:M.length=L.length-1:=by rw[LL];simp;omega
   have e1:((e.1:Int)+(e.2:Int)==(L[i].1:Int))=true:=by simp;omega
   have w3:IntKind.i64.wrap ((e.2:Int)+(L[i].2:Int))=(e.2:Int)+(L[i].2:Int):=by have:=hb L[i] (by simp);exact aD
   have w0:IntKind.i64.wrap ((i:Int)+1)=(i:Int)+1:=aD;by_cases z:i=0
   ·have z0:¬0<i:=by omega
    have hNe:M.take i++(e.1,e.2+L[i].2)::M.drop i=N:=by rw[hN];generalize(e.1,e.2+L[i].2)=E;rw[z];simp[jJ]
    have xu:N.length=M.length+1:=by rw[<-hNe];simp;omega
    refine ah (rs:=[]) [3] [(3,[(6,.r 1),(8,.r 1),(14,.r 2)]),(4,[(1,.r 1),(6,.r 2),(9,.s 1 [2])]),(6,[(8,.r 3),(14,.r 3),(17,.r 1)]),(7,[(5,.r 3),(7,.r 1),(11,.s 3 [1])])] [(1,nx),(2,dX),(3,nx+1)] func176 rfl ?_;simp[hx,hne,n1,n2,n3,n4,n5,n6,n7,n8,n9,fc,fe];refine bD ha ⟨IL _ (by simp[n1,n2,n3,n4,n5,n6,n7,n8,n9,fc,fe]),by simp[cQ],trivial⟩ rfl ?_;simp[hx,hne,n1,n2,n3,n4,n5,n6,n7,n8,n9,fc,fe,w1,c,e1,g.1,g.2.1,g.2.2.1,g.2.2.2,w0,w3];refine aA (pz (nx+1) dX (by omega) L i c (by omega)) (by simp) (by simp[ay,n1,n2,n3,n4,n5,n6,n7,n8,n9,fc,fe]) trivial rfl ?_;rw[Zx,<-VH];simp[hx,hne,n1,n2,n3,n4,n5,n6,n7,n8,n9,fc,fe,w1,z0];refine aA (kW (nx+1+1) (nx+1) (by omega) M i (e.1,e.2+L[i].2) (by omega) (by omega)) (by simp) (by simp[ay,n1,n2,n3,n4,n5,n6,n7,n8,n9,fc,fe]) trivial rfl ?_;rw[hNe];simp[hx,hne,n1,n2,n3,n4,n5,n6,n7,n8,n9,fc,fe,hoff,results176];refine⟨by omega,[(nx,nx+1+1)],?_⟩;simp[hx,hne,n1,n2,n3,n4,n5,n6,n7,n8,n9,fc,fe,hr,IK,uH,xu]
   ·obtain⟨k,hk⟩:∃k,i=k+1:=⟨i-1,by omega⟩;have z1:0<i:=by omega
    have xp:k<M.length:=by omega
    have gk:=hat M k xp;have hsub:∀x∈M,x∈L:=by rw[LL];intro x hx;rcases iR.1 hx with h|h;exact jH h;exact List.mem_of_mem_drop h
    have bk:=hb _ (hsub _ (List.getElem_mem xp));have bi:=hb L[i] (by simp);have w4:IntKind.i64.wrap ((i:Int)-1)=(k:Int):=by rw[aD];omega
    have w5:IntKind.i64.wrap ((M[k].1:Int)+(M[k].2:Int))=(M[k].1:Int)+(M[k].2:Int):=aD;by_cases jl:M[k].1+M[k].2=e.1
    ·have e2:((M[k].1:Int)+(M[k].2:Int)==(e.1:Int))=true:=by simp;omega
     have w6:IntKind.i64.wrap ((M[k].2:Int)+((e.2:Int)+(L[i].2:Int)))=((M[k].2+(e.2+L[i].2):Nat):Int):=by rw[aD];simp
     have hNe:M.take k++(M[k].1,M[k].2+(e.2+L[i].2))::M.drop (k+1)=N:=by rw[hN];simp only[hk,jJ];simp[xp,jl]
     have xu:N.length=M.length:=by rw[<-hNe];simp;omega
     have gT:=congrArg (List.map AV.p) (sO (n:=M[k].2+(e.2+L[i].2)) xp);rw[hNe]at gT;simp at gT;refine ah (rs:=[]) [3] [(3,[(6,.r 1),(8,.r 1),(14,.r 2)]),(4,[(1,.r 1),(6,.r 2),(9,.s 1 [2])]),(6,[(8,.r 3),(14,.r 3),(17,.r 1)]),(7,[(5,.r 3),(7,.r 1),(11,.s 3 [1])])] [(1,nx),(2,dX),(3,nx+1)] func176 rfl ?_;simp[hx,hne,n1,n2,n3,n4,n5,n6,n7,n8,n9,fc,fe];refine bD ha ⟨IL _ (by simp[n1,n2,n3,n4,n5,n6,n7,n8,n9,fc,fe]),by simp[cQ],trivial⟩ rfl ?_;simp[hx,hne,n1,n2,n3,n4,n5,n6,n7,n8,n9,fc,fe,w1,c,e1,g.1,g.2.1,g.2.2.1,g.2.2.2,w0,w3];refine aA (pz (nx+1) dX (by omega) L i c (by omega)) (by simp) (by simp[ay,n1,n2,n3,n4,n5,n6,n7,n8,n9,fc,fe]) trivial rfl ?_;rw[Zx,<-VH];simp[hx,hne,n1,n2,n3,n4,n5,n6,n7,n8,n9,fc,fe,w1,gk.1,gk.2.1,gk.2.2.1,gk.2.2.2,w4,w5,w6,e2,z1,xp];refine⟨by omega,by omega,[(nx,nx+1)],?_⟩;simp[hx,hne,n1,n2,n3,n4,n5,n6,n7,n8,n9,fc,fe,hr,IK,uH,xu,gT]
    ·have e2:((M[k].1:Int)+(M[k].2:Int)==(e.1:Int))=false:=by simp;omega
     have hNe:M.take i++(e.1,e.2+L[i].2)::M.drop i=N:=by rw[hN];simp only[hk,jJ];simp[xp,jl]
     have xu:N.length=M.length+1:=by rw[<-hNe];simp;omega
     refine ah (rs:=[]) [3] [(3,[(6,.r 1),(8,.r 1),(14,.r 2)]),(4,[(1,.r 1),(6,.r 2),(9,.s 1 [2])]),(6,[(8,.r 3),(14,.r 3),(17,.r 1)]),(7,[(5,.r 3),(7,.r 1),(11,.s 3 [1])])] [(1,nx),(2,dX),(3,nx+1)] func176 rfl ?_;simp[hx,hne,n1,n2,n3,n4,n5,n6,n7,n8,n9,fc,fe];refine bD ha ⟨IL _ (by simp[n1,n2,n3,n4,n5,n6,n7,n8,n9,fc,fe]),by simp[cQ],trivial⟩ rfl ?_;simp[hx,hne,n1,n2,n3,n4,n5,n6,n7,n8,n9,fc,fe,w1,c,e1,g.1,g.2.1,g.2.2.1,g.2.2.2,w0,w3];refine aA (pz (nx+1) dX (by omega) L i c (by omega)) (by simp) (by simp[ay,n1,n2,n3,n4,n5,n6,n7,n8,n9,fc,fe]) trivial rfl ?_;rw[Zx,<-VH];simp[hx,hne,n1,n2,n3,n4,n5,n6,n7,n8,n9,fc,fe,w1,gk.1,gk.2.1,gk.2.2.1,gk.2.2.2,w4,w5,e2,z1,xp];refine aA (kW (nx+1+1) (nx+1) (by omega) M i (e.1,e.2+L[i].2) (by omega) (by omega)) (by simp) (by simp[ay,n1,n2,n3,n4,n5,n6,n7,n8,n9,fc,fe]) trivial rfl ?_;rw[hNe];simp[hx,hne,n1,n2,n3,n4,n5,n6,n7,n8,n9,fc,fe,hoff,results176];refine⟨by omega,[(nx,nx+1+1)],?_⟩;simp[hx,hne,n1,n2,n3,n4,n5,n6,n7,n8,n9,fc,fe,hr,IK,uH,xu]
  ·have hj:sX L e=false:=by unfold sX;rw[hi];simp[c,jr]
   have hE:BM L e=e/\jK L e=L:=by unfold BM jK;rw[hj];simp
   rw[hE.1,hE.2]at hN;have e1:((e.1:Int)+(e.2:Int)==(L[i].1:Int))=false:=by simp;omega
   by_cases z:i=0
   ·have z0:¬0<i:=by omega
    have hNe:L.take i++e::L.drop i=N:=by rw[hN];generalize e=E;rw[z];simp[jJ]
    have xu:N.length=L.length+1:=by rw[<-hNe];simp;omega
    refine ah (rs:=[]) [3] [(3,[(6,.r 1),(8,.r 1),(14,.r 2)]),(4,[(1,.r 1),(6,.r 2),(9,.s 1 [2])]),(6,[(8,.r 3),(14,.r 3),(17,.r 1)]),(7,[(5,.r 3),(7,.r 1),(11,.s 3 [1])])] [(1,nx),(2,dX),(3,dX)] func176 rfl ?_;simp[hx,hne,n1,n2,n3,n4,n5,n6,n7,n8,n9,fc,fe];refine bD ha ⟨IL _ (by simp[n1,n2,n3,n4,n5,n6,n7,n8,n9,fc,fe]),by simp[cQ],trivial⟩ rfl ?_;simp[hx,hne,n1,n2,n3,n4,n5,n6,n7,n8,n9,fc,fe,w1,c,e1,g.1,g.2.1,g.2.2.1,g.2.2.2,z0];refine aA (kW (nx+1) dX (by omega) L i e (by omega) (by omega)) (by simp) (by simp[ay,n1,n2,n3,n4,n5,n6,n7,n8,n9,fc,fe]) trivial rfl ?_;rw[hNe];simp[hx,hne,n1,n2,n3,n4,n5,n6,n7,n8,n9,fc,fe,hoff,results176];refine⟨by omega,[(nx,nx+1)],?_⟩;simp[hx,hne,n1,n2,n3,n4,n5,n6,n7,n8,n9,fc,fe,hr,IK,uH,xu]
   ·obtain⟨k,hk⟩:∃k,i=k+1:=⟨i-1,by omega⟩;have z1:0<i:=by omega
    have xp:k<L.length:=by omega
    have gk:=hat L k xp;have hsub:∀x∈L,x∈L:=by exact fun x h=>h
    have bk:=hb _ (hsub _ (List.getElem_mem xp));have w4:IntKind.i64.wrap ((i:Int)-1)=(k:Int):=by rw[aD];omega
    have w5:IntKind.i64.wrap ((L[k].1:Int)+(L[k].2:Int))=(L[k].1:Int)+(L[k].2:Int):=aD;by_cases jl:L[k].1+L[k].2=e.1
    ·have e2:((L[k].1:Int)+(L[k].2:Int)==(e.1:Int))=true:=by simp;omega
     have w6:IntKind.i64.wrap ((L[k].2:Int)+(e.2:Int))=((L[k].2+e.2:Nat):Int):=by rw[aD];simp
     have hNe:L.take k++(L[k].1,L[k].2+e.2)::L.drop (k+1)=N:=by rw[hN];simp only[hk,jJ];simp[xp,jl]
     have xu:N.length=L.length:=by rw[<-hNe];simp;omega
     have gT:=congrArg (List.map AV.p) (sO (n:=L[k].2+e.2) xp);rw[hNe]at gT;simp at gT;refine ah (rs:=[]) [3] [(3,[(6,.r 1),(8,.r 1),(14,.r 2)]),(4,[(1,.r 1),(6,.r 2),(9,.s 1 [2])]),(6,[(8,.r 3),(14,.r 3),(17,.r 1)]),(7,[(5,.r 3),(7,.r 1),(11,.s 3 [1])])] [(1,nx),(2,dX),(3,dX)] func176 rfl ?_;simp[hx,hne,n1,n2,n3,n4,n5,n6,n7,n8,n9,fc,fe];refine bD ha ⟨IL _ (by simp[n1,n2,n3,n4,n5,n6,n7,n8,n9,fc,fe]),by simp[cQ],trivial⟩ rfl ?_;simp[hx,hne,n1,n2,n3,n4,n5,n6,n7,n8,n9,fc,fe,w1,c,e1,g.1,g.2.1,g.2.2.1,g.2.2.2,gk.1,gk.2.1,gk.2.2.1,gk.2.2.2,w4,w5,w6,e2,z1,xp];refine⟨by omega,by omega,[(nx,dX)],?_⟩;simp[hx,hne,n1,n2,n3,n4,n5,n6,n7,n8,n9,fc,fe,hr,IK,uH,xu,gT]
    ·have e2:((L[k].1:Int)+(L[k].2:Int)==(e.1:Int))=false:=by simp;omega
     have hNe:L.take i++e::L.drop i=N:=by rw[hN];simp only[hk,jJ];simp[xp,jl]
     have xu:N.length=L.length+1:=by rw[<-hNe];simp;omega
     refine ah (rs:=[]) [3] [(3,[(6,.r 1),(8,.r 1),(14,.r 2)]),(4,[(1,.r 1),(6,.r 2),(9,.s 1 [2])]),(6,[(8,.r 3),(14,.r 3),(17,.r 1)]),(7,[(5,.r 3),(7,.r 1),(11,.s 3 [1])])] [(1,nx),(2,dX),(3,dX)] func176 rfl ?_;simp[hx,hne,n1,n2,n3,n4,n5,n6,n7,n8,n9,fc,fe];refine bD ha ⟨IL _ (by simp[n1,n2,n3,n4,n5,n6,n7,n8,n9,fc,fe]),by simp[cQ],trivial⟩ rfl ?_;simp[hx,hne,n1,n2,n3,n4,n5,n6,n7,n8,n9,fc,fe,w1,c,e1,g.1,g.2.1,g.2.2.1,g.2.2.2,gk.1,gk.2.1,gk.2.2.1,gk.2.2.2,w4,w5,e2,z1,xp];refine aA (kW (nx+1) dX (by omega) L i e (by omega) (by omega)) (by simp) (by simp[ay,n1,n2,n3,n4,n5,n6,n7,n8,n9,fc,fe]) trivial rfl ?_;rw[hNe];simp[hx,hne,n1,n2,n3,n4,n5,n6,n7,n8,n9,fc,fe,hoff,results176];refine⟨by omega,[(nx,nx+1)],?_⟩;simp[hx,hne,n1,n2,n3,n4,n5,n6,n7,n8,n9,fc,fe,hr,IK,uH,xu]
 ·have hj:sX L e=false:=by unfold sX;rw[hi];simp[c]
  have hE:BM L e=e/\jK L e=L:=by unfold BM jK;rw[hj];simp
  rw[hE.1,hE.2]at hN;by_cases z:i=0
  ·have z0:¬0<i:=by omega
   have hNe:L.take i++e::L.drop i=N:=by rw[hN];generalize e=E;rw[z];simp[jJ]
   have xu:N.length=L.length+1:=by rw[<-hNe];simp;omega
   refine ah (rs:=[]) [3] [(3,[(6,.r 1),(8,.r 1),(14,.r 2)]),(4,[(1,.r 1),(6,.r 2),(9,.s 1 [2])]),(6,[(8,.r 3),(14,.r 3),(17,.r 1)]),(7,[(5,.r 3),(7,.r 1),(11,.s 3 [1])])] [(1,nx),(2,dX),(3,dX)] func176 rfl ?_;simp[hx,hne,n1,n2,n3,n4,n5,n6,n7,n8,n9,fc,fe];refine bD ha ⟨IL _ (by simp[n1,n2,n3,n4,n5,n6,n7,n8,n9,fc,fe]),by simp[cQ],trivial⟩ rfl ?_;simp[hx,hne,n1,n2,n3,n4,n5,n6,n7,n8,n9,fc,fe,w1,c,z0];refine aA (kW (nx+1) dX (by omega) L i e (by omega) (by omega)) (by simp) (by simp[ay,n1,n2,n3,n4,n5,n6,n7,n8,n9,fc,fe]) trivial rfl ?_;rw[hNe];simp[hx,hne,n1,n2,n3,n4,n5,n6,n7,n8,n9,fc,fe,hoff,results176];refine⟨by omega,[(nx,nx+1)],?_⟩;simp[hx,hne,n1,n2,n3,n4,n5,n6,n7,n8,n9,fc,fe,hr,IK,uH,xu]
  ·obtain⟨k,hk⟩:∃k,i=k+1:=⟨i-1,by omega⟩;have z1:0<i:=by omega
   have xp:k<L.length:=by omega
   have gk:=hat L k xp;have hsub:∀x∈L,x∈L:=by exact fun x h=>h
   have bk:=hb _ (hsub _ (List.getElem_mem xp));have w4:IntKind.i64.wrap ((i:Int)-1)=(k:Int):=by rw[aD];omega
   have w5:IntKind.i64.wrap ((L[k].1:Int)+(L[k].2:Int))=(L[k].1:Int)+(L[k].2:Int):=aD;by_cases jl:L[k].1+L[k].2=e.1
   ·have e2:((L[k].1:Int)+(L[k].2:Int)==(e.1:Int))=true:=by simp;omega
    have w6:IntKind.i64.wrap ((L[k].2:Int)+(e.2:Int))=((L[k].2+e.2:Nat):Int):=by rw[aD];simp
    have hNe:L.take k++(L[k].1,L[k].2+e.2)::L.drop (k+1)=N:=by rw[hN];simp only[hk,jJ];simp[xp,jl]
    have xu:N.length=L.length:=by rw[<-hNe];simp;omega
    have gT:=congrArg (List.map AV.p) (sO (n:=L[k].2+e.2) xp);rw[hNe]at gT;simp at gT;refine ah (rs:=[]) [3] [(3,[(6,.r 1),(8,.r 1),(14,.r 2)]),(4,[(1,.r 1),(6,.r 2),(9,.s 1 [2])]),(6,[(8,.r 3),(14,.r 3),(17,.r 1)]),(7,[(5,.r 3),(7,.r 1),(11,.s 3 [1])])] [(1,nx),(2,dX),(3,dX)] func176 rfl ?_;simp[hx,hne,n1,n2,n3,n4,n5,n6,n7,n8,n9,fc,fe];refine bD ha ⟨IL _ (by simp[n1,n2,n3,n4,n5,n6,n7,n8,n9,fc,fe]),by simp[cQ],trivial⟩ rfl ?_;simp[hx,hne,n1,n2,n3,n4,n5,n6,n7,n8,n9,fc,fe,w1,c,gk.1,gk.2.1,gk.2.2.1,gk.2.2.2,w4,w5,w6,e2,z1,xp];refine⟨by omega,by omega,[(nx,dX)],?_⟩;simp[hx,hne,n1,n2,n3,n4,n5,n6,n7,n8,n9,fc,fe,hr,IK,uH,xu,gT]
   ·have e2:((L[k].1:Int)+(L[k].2:Int)==(e.1:Int))=false:=by simp;omega
    have hNe:L.take i++e::L.drop i=N:=by rw[hN];simp only[hk,jJ];simp[xp,jl]
    have xu:N.length=L.length+1:=by rw[<-hNe];simp;omega
    refine ah (rs:=[]) [3] [(3,[(6,.r 1),(8,.r 1),(14,.r 2)]),(4,[(1,.r 1),(6,.r 2),(9,.s 1 [2])]),(6,[(8,.r 3),(14,.r 3),(17,.r 1)]),(7,[(5,.r 3),(7,.r 1),(11,.s 3 [1])])] [(1,nx),(2,dX),(3,dX)] func176 rfl ?_;simp[hx,hne,n1,n2,n3,n4,n5,n6,n7,n8,n9,fc,fe];refine bD ha ⟨IL _ (by simp[n1,n2,n3,n4,n5,n6,n7,n8,n9,fc,fe]),by simp[cQ],trivial⟩ rfl ?_;simp[hx,hne,n1,n2,n3,n4,n5,n6,n7,n8,n9,fc,fe,w1,c,gk.1,gk.2.1,gk.2.2.1,gk.2.2.2,w4,w5,e2,z1,xp];refine aA (kW (nx+1) dX (by omega) L i e (by omega) (by omega)) (by simp) (by simp[ay,n1,n2,n3,n4,n5,n6,n7,n8,n9,fc,fe]) trivial rfl ?_;rw[hNe];simp[hx,hne,n1,n2,n3,n4,n5,n6,n7,n8,n9,fc,fe,hoff,results176];refine⟨by omega,[(nx,nx+1)],?_⟩;simp[hx,hne,n1,n2,n3,n4,n5,n6,n7,n8,n9,fc,fe,hr,IK,uH,xu]
end Go.Av
