/- DiskSizes, part 23: what the functions compute, and the plain law of that; no condition. -/
import Derived.Test.YtgkdpbambfgahaaGreatDoorWav
set_option linter.all false
set_option maxRecDepth 100000
set_option maxHeartbeats 64000000
namespace Go.aW
open Go.Av (a_)
def rM(f:Go.Av.Fd):List UInt8:=js f.1++js f.2
def qo(x:Int×Int):List UInt8:=aF x.1 4++aF x.2 4
theorem FR(e:eG):e.pack=aF 69 1++(aF e.st.st 2++(aF e.st.mi 1++(aF e.asked 8++(aF e.got 8++(aF e.order 8++(aF e.size 4++(aF e.sum 4++(js e.uri++(js e.var++(js e.st.r++(aF e.names.length 1++(a_ e.names++(aF e.fields.length 1++(e.fields.flatMap rM++(aF e.body.length 1++e.body.flatMap qo))))))))))))))):=by
 have h69:aF 69 1=[69]:=by decide
 have hf:(e.fields.flatMap fun f=>a_ [f.1,f.2])=e.fields.flatMap rM:=by
  congr 1;funext f;simp[a_,rM,js]
 have hb:(e.body.flatMap fun x=>aF x.1 4++aF x.2 4)=e.body.flatMap qo:=rfl;simp only[eG.pack,eG.h4,eG.h3,eG.h2,eG.h1,hf,hb];simp[a_,js,h69,List.append_assoc]
theorem tF{α β:Type}(f:α->List β)(l:List α)(k:Nat):((l.drop k).flatMap f).length<=(l.flatMap f).length:=by
 conv=>rhs;rw[<-List.take_append_drop k l,List.flatMap_append,List.length_append]
 omega
structure V9(e:eG):Prop where
 st:0<=e.st.st/\e.st.st<65536
 mi:0<=e.st.mi/\e.st.mi<256
 asked:0<=e.asked/\e.asked<9223372036854775808
 got:0<=e.got/\e.got<9223372036854775808
 order:0<=e.order/\e.order<9223372036854775808
 size:0<=e.size/\e.size<4294967296
 sum:e.sum<4294967296
 uri:e.uri.length<65536
 var:e.var.length<65536
 r:e.st.r.length<65536
 nl:e.names.length<256
 ns:∀s∈e.names,s.length<65536
 fl:e.fields.length<256
 fs:∀f∈e.fields,f.1.length<65536/\f.2.length<65536
 bl:e.body.length<256
 bs:∀x∈e.body,(0<=x.1/\x.1<4294967296)/\0<=x.2/\x.2<4294967296
end Go.aW
namespace Go.Av
open Go.Proofs Go.aW
theorem HP(e:eG)(h:V9 e)(hp:e.pack.length<=10000)(hm:e.st.m=[])(ht:e.st.t=[]):aI Tryz.prog 253 [.obj 0 0] ⟨[(0,Dz e.pack)],[],1⟩ (.p (dY e)) ⟨[(0,Dz [])],[],1⟩:=by
 rw[FR]at hp⊢;obtain⟨R16,h16⟩:∃r,e.body.flatMap qo=r:=⟨_,rfl⟩;rw[h16]at hp⊢;obtain⟨T_,h15⟩:∃r,aF e.body.length 1++R16=r:=⟨_,rfl⟩;rw[h15]at hp⊢;obtain⟨R14,h14⟩:∃r,e.fields.flatMap rM++T_=r:=⟨_,rfl⟩;rw[h14]at hp⊢;obtain⟨Wp,h13⟩:∃r,aF e.fields.length 1++R14=r:=⟨_,rfl⟩;rw[h13]at hp⊢;obtain⟨R12,h12⟩:∃r,a_ e.names++Wp=r:=⟨_,rfl⟩;rw[h12]at hp⊢;obtain⟨R11,h11⟩:∃r,aF e.names.length 1++R12=r:=⟨_,rfl⟩;rw[h11]at hp⊢;obtain⟨R10,h10⟩:∃r,js e.st.r++R11=r:=⟨_,rfl⟩;rw[h10]at hp⊢;obtain⟨R9,h9⟩:∃r,js e.var++R10=r:=⟨_,rfl⟩;rw[h9]at hp⊢;obtain⟨R8,h8⟩:∃r,js e.uri++R9=r:=⟨_,rfl⟩;rw[h8]at hp⊢;obtain⟨R7,h7⟩:∃r,aF e.sum 4++R8=r:=⟨_,rfl⟩;rw[h7]at hp⊢;obtain⟨R6,h6⟩:∃r,aF e.size 4++R7=r:=⟨_,rfl⟩;rw[h6]at hp⊢;obtain⟨R5,h5⟩:∃r,aF e.order 8++R6=r:=⟨_,rfl⟩;rw[h5]at hp⊢;obtain⟨R4,h4⟩:∃r,aF e.got 8++R5=r:=⟨_,rfl⟩;rw[h4]at hp⊢;obtain⟨R3,h3⟩:∃r,aF e.asked 8++R4=r:=⟨_,rfl⟩;rw[h3]at hp⊢;obtain⟨R2,h2⟩:∃r,aF e.st.mi 1++R3=r:=⟨_,rfl⟩;rw[h2]at hp⊢;obtain⟨R1,h1⟩:∃r,aF e.st.st 2++R2=r:=⟨_,rfl⟩;rw[h1]at hp⊢;obtain⟨R0,h0⟩:∃r,aF 69 1++R1=r:=⟨_,rfl⟩;rw[h0]at hp⊢;have l0:R0.length<=10000:=hp;have l1:R1.length<=10000:=by rw[<-h0]at l0;simp only[List.length_append]at l0;omega
 have l2:R2.length<=10000:=by rw[<-h1]at l1;simp only[List.length_append]at l1;omega
 have l3:R3.length<=10000:=by rw[<-h2]at l2;simp only[List.length_append]at l2;omega
 have l4:R4.length<=10000:=by rw[<-h3]at l3;simp only[List.length_append]at l3;omega
 have l5:R5.length<=10000:=by rw[<-h4]at l4;simp only[List.length_append]at l4;omega
 have l6:R6.length<=10000:=by rw[<-h5]at l5;simp only[List.length_append]at l5;omega
 have l7:R7.length<=10000:=by rw[<-h6]at l6;simp only[List.length_append]at l6;omega
 have l8:R8.length<=10000:=by rw[<-h7]at l7;simp only[List.length_append]at l7;omega
 have l9:R9.length<=10000:=by rw[<-h8]at l8;simp only[List.length_append]at l8;omega
 have l10:R10.length<=10000:=by rw[<-h9]at l9;simp only[List.length_append]at l9;omega
 have l11:R11.length<=10000:=by rw[<-h10]at l10;simp only[List.length_append]at l10;omega
 have l12:R12.length<=10000:=by rw[<-h11]at l11;simp only[List.length_append]at l11;omega
 have l13:Wp.length<=10000:=by rw[<-h12]at l12;simp only[List.length_append]at l12;omega
 have l14:R14.length<=10000:=by rw[<-h13]at l13;simp only[List.length_append]at l13;omega
 have l15:T_.length<=10000:=by rw[<-h14]at l14;simp only[List.length_append]at l14;omega
 have l16:R16.length<=10000:=by rw[<-h15]at l15;simp only[List.length_append]at l15;omega
 have c0:=tD 69 1 R1 (by omega) (by omega) (by omega) (by simp) (by omega);rw[h0]at c0;have c1:=tD e.st.st 2 R2 (by omega) (by omega) h.st.1 (by have:=h.st;simp;omega) (by have:=h.st;omega);rw[h1]at c1;have c2:=tD e.st.mi 1 R3 (by omega) (by omega) h.mi.1 (by have:=h.mi;simp;omega) (by have:=h.mi;omega);rw[h2]at c2;have c3:=tD e.asked 8 R4 (by omega) (by omega) h.asked.1 (by have:=h.asked;simp;omega) (by have:=h.asked;omega);rw[h3]at c3;have c4:=tD e.got 8 R5 (by omega) (by omega) h.got.1 (by have:=h.got;simp;omega) (by have:=h.got;omega);rw[h4]at c4;have c5:=tD e.order 8 R6 (by omega) (by omega) h.order.1 (by have:=h.order;simp;omega) (by have:=h.order;omega);rw[h5]at c5;have c6:=tD e.size 4 R7 (by omega) (by omega) h.size.1 (by have:=h.size;simp;omega) (by have:=h.size;omega);rw[h6]at c6;have c7:=tD e.sum 4 R8 (by omega) (by omega) (by omega) (by have:=h.sum;simp;omega) (by have:=h.sum;omega);rw[h7]at c7;have c8:=HK e.uri R9 (by omega) h.uri;rw[h8]at c8;have c9:=HK e.var R10 (by omega) h.var;rw[h9]at c9;have c10:=HK e.st.r R11 (by omega) h.r;rw[h10]at c10;have c11:=tD e.names.length 1 R12 (by omega) (by omega) (by omega) (by have:=h.nl;simp;omega) (by have:=h.nl;omega);rw[h11]at c11;have c13:=tD e.fields.length 1 R14 (by omega) (by omega) (by omega) (by have:=h.fl;simp;omega) (by have:=h.fl;omega);rw[h13]at c13;have c15:=tD e.body.length 1 R16 (by omega) (by omega) (by omega) (by have:=h.bl;simp;omega) (by have:=h.bl;omega);rw[h15]at c15;have amS:IntKind.u32.wrap (e.sum:Int)=(e.sum:Int):=Au h.sum;refine QgQ (rs:=[_]) [] [(10,[(1,.r 1),(3,.w [1]),(5,.f [1,2]),(7,.s 1 [2])])] [(1,2),(2,0)] Tryz.func253 rfl (by simp[Tryz.ntmps253]) ?_;simp;refine ak [0] c0 (by simp) (by simp) (by simp) (by simp) ?_;simp;refine ak [0] c1 (by simp) (by simp) (by simp) (by simp) ?_;simp;refine ak [0] c2 (by simp) (by simp) (by simp) (by simp) ?_;simp;refine ak [0] c3 (by simp) (by simp) (by simp) (by simp) ?_;simp;refine ak [0] c4 (by simp) (by simp) (by simp) (by simp) ?_;simp;refine ak [0] c5 (by simp) (by simp) (by simp) (by simp) ?_;simp;refine ak [0] c6 (by simp) (by simp) (by simp) (by simp) ?_;simp;refine ak [0] c7 (by simp) (by simp) (by simp) (by simp) ?_;simp;refine ak [0] c8 (by simp) (by simp) (by simp) (by simp) ?_;simp;refine ak [0] c9 (by simp) (by simp) (by simp) (by simp) ?_;simp;refine ak [0] c10 (by simp) (by simp) (by simp) (by simp) ?_;simp;refine ak [0] c11 (by simp) (by simp) (by simp) (by simp) ?_;simp;refine aN (fun k:Nat=>k<=e.names.length) (fun k=>[(0,.obj 0 0),(2,.obj 1 0),(3,.obj 2 0),(48,.p (.int e.names.length)),(49,.p (.int k))]) (fun k=>⟨[(0,Dz (a_ (e.names.drop k)++Wp)),(1,⟨49,15,[.p (.str []),.p .nil,.p (.str []),.p (.str []),.p (.str []),.p (.int 0),.p (.str []),.p (.int 0),.p .nil,.p (.int 0),.p (.int 0),.p (.int 0),.p (.int 0),.p (mz 0),.p .nil]⟩),(2,⟨49,15,[.p (.str e.uri),.own 3 ((e.names.take k).map PC.str),.p (.str e.var),.p (.str []),.p (.str []),.p (.int e.st.st),.p (.str e.st.r),.p (.int e.st.mi),.p .nil,.p (.int e.asked),.p (.int e.got),.p (.int e.order),.p (.int e.size),.p (mz e.sum),.p .nil]⟩)],[(3,9,1)],4⟩) (fun k=>e.names.length-k) 0 (by simp) _ (iu 2 1 9 1 _ [] rfl (.inr ⟨rfl,rfl⟩)) (aA (by simp[h12,amS])) ?_;intro k hk;by_cases ck:k<e.names.length
 ·have wk:IntKind.i64.wrap ((k:Int)+1)=((k+1:Nat):Int):=by rw[af (by have:=h.nl;omega) (by have:=h.nl;omega)];rfl
  have hd:a_ (e.names.drop k)++Wp=js e.names[k]++(a_ (e.names.drop (k+1))++Wp):=by rw[List.drop_eq_getElem_cons ck,HJ,List.append_assoc]
  have hlen:(a_ (e.names.drop (k+1))++Wp).length<=100000:=by
   have hle:(a_ (e.names.drop (k+1))).length<=(a_ e.names).length:=tF _ _ _;have:=congrArg List.length h12;simp only[List.length_append]at this⊢;omega
  have ct:=HK e.names[k] (a_ (e.names.drop (k+1))++Wp) (by omega) (h.ns _ (List.getElem_mem ck));rw[<-hd]at ct;have hnl:=h.nl;simp[ck];refine ak [0] ct (by simp) (by simp) (by simp) (by simp) ?_;simp[wk];have hts:List.take (k+1) (List.map PC.str e.names)=List.take k (List.map PC.str e.names)++[PC.str e.names[k]]:=by rw[List.take_succ_eq_append_getElem (by simpa using ck)];simp
  exact⟨fun x hx=>by obtain⟨f,_,rfl⟩:=List.mem_map.1 (List.mem_of_mem_take hx);rfl,by omega,by omega,k+1,by omega,by omega,aE [(3,4)] (by simp[hts])⟩
 ·obtain rfl:k=e.names.length:=by omega
  simp[a_];refine ak [0] c13 (by simp) (by simp) (by simp) (by simp) ?_;simp;refine aN (fun k:Nat=>k<=e.fields.length) (fun k=>[(0,.obj 0 0),(2,.obj 1 0),(3,.obj 2 0),(60,.p (.int e.fields.length)),(61,.p (.int k))]) (fun k=>⟨[(0,Dz ((e.fields.drop k).flatMap rM++T_)),(1,⟨49,15,[.p (.str []),.p .nil,.p (.str []),.p (.str []),.p (.str []),.p (.int 0),.p (.str []),.p (.int 0),.p .nil,.p (.int 0),.p (.int 0),.p (.int 0),.p (.int 0),.p (mz 0),.p .nil]⟩),(2,⟨49,15,[.p (.str e.uri),.own 3 (e.names.map PC.str),.p (.str e.var),.p (.str []),.p (.str []),.p (.int e.st.st),.p (.str e.st.r),.p (.int e.st.mi),.own 4 ((e.fields.take k).map pQ),.p (.int e.asked),.p (.int e.got),.p (.int e.order),.p (.int e.size),.p (mz e.sum),.p .nil]⟩)],[(3,9,1),(4,139,2)],5⟩) (fun k=>e.fields.length-k) 0 (by simp) _ (iu 2 8 139 2 _ [] rfl (.inr ⟨rfl,rfl⟩)) (aA (by simp[h14])) ?_;intro k hk;by_cases ck:k<e.fields.length
  ·have wk:IntKind.i64.wrap ((k:Int)+1)=((k+1:Nat):Int):=by rw[af (by have:=h.fl;omega) (by have:=h.fl;omega)];rfl
   have hd:(e.fields.drop k).flatMap rM++T_=js e.fields[k].1++(js e.fields[k].2++((e.fields.drop (k+1)).flatMap rM++T_)):=by
    rw[List.drop_eq_getElem_cons ck,List.flatMap_cons,rM];simp only[List.append_assoc]
   have hlen:((e.fields.drop k).flatMap rM++T_).length<=100000:=by
    have hle:((e.fields.drop k).flatMap rM).length<=(e.fields.flatMap rM).length:=tF _ _ _;have:=congrArg List.length h14;simp only[List.length_append]at this⊢;omega
   rw[hd]at hlen;simp only[List.length_append]at hlen;obtain⟨f1,f2⟩:=h.fs _ (List.getElem_mem ck);have ct:=HK e.fields[k].1 (js e.fields[k].2++((e.fields.drop (k+1)).flatMap rM++T_)) (by simp only[List.length_append];omega) f1;have ct2:=HK e.fields[k].2 ((e.fields.drop (k+1)).flatMap rM++T_) (by simp only[List.length_append];omega) f2;rw[<-hd]at ct;have hnl:=h.fl;simp[ck];refine ak [0] ct (by simp) (by simp) (by simp) (by simp) ?_;simp;refine ak [0] ct2 (by simp) (by simp) (by simp) (by simp) ?_;simp[wk];have hts:List.take (k+1) (List.map pQ e.fields)=List.take k (List.map pQ e.fields)++[pQ e.fields[k]]:=by rw[List.take_succ_eq_append_getElem (by simpa using ck)];simp
   exact⟨fun x hx=>by obtain⟨f,_,rfl⟩:=List.mem_map.1 (List.mem_of_mem_take hx);rfl,by omega,by omega,k+1,by omega,by omega,aE [(4,6)] (by simp[hts])⟩
  ·obtain rfl:k=e.fields.length:=by omega
   simp;refine ak [0] c15 (by simp) (by simp) (by simp) (by simp) ?_;simp;refine aN (fun k:Nat=>k<=e.body.length) (fun k=>[(0,.obj 0 0),(2,.obj 1 0),(3,.obj 2 0),(77,.p (.int e.body.length)),(78,.p (.int k))]) (fun k=>⟨[(0,Dz ((e.body.drop k).flatMap qo)),(1,⟨49,15,[.p (.str []),.p .nil,.p (.str []),.p (.str []),.p (.str []),.p (.int 0),.p (.str []),.p (.int 0),.p .nil,.p (.int 0),.p (.int 0),.p (.int 0),.p (.int 0),.p (mz 0),.p .nil]⟩),(2,⟨49,15,[.p (.str e.uri),.own 3 (e.names.map PC.str),.p (.str e.var),.p (.str []),.p (.str []),.p (.int e.st.st),.p (.str e.st.r),.p (.int e.st.mi),.own 4 (e.fields.map pQ),.p (.int e.asked),.p (.int e.got),.p (.int e.order),.p (.int e.size),.p (mz e.sum),.own 5 ((e.body.take k).map gS)]⟩)],[(3,9,1),(4,139,2),(5,157,2)],6⟩) (fun k=>e.body.length-k) 0 (by simp) _ (iu 2 14 157 2 _ [] rfl (.inr ⟨rfl,rfl⟩)) (aA (by simp[h16])) ?_;intro k hk;by_cases ck:k<e.body.length
   ·have wk:IntKind.i64.wrap ((k:Int)+1)=((k+1:Nat):Int):=by rw[af (by have:=h.bl;omega) (by have:=h.bl;omega)];rfl
    have hd:(e.body.drop k).flatMap qo=aF e.body[k].1 4++(aF e.body[k].2 4++(e.body.drop (k+1)).flatMap qo):=by
     rw[List.drop_eq_getElem_cons ck,List.flatMap_cons,qo];simp only[List.append_assoc]
    have hlen:((e.body.drop k).flatMap qo).length<=100000:=by
     have hle:((e.body.drop k).flatMap qo).length<=(e.body.flatMap qo).length:=tF _ _ _;rw[h16]at hle;omega
    rw[hd]at hlen;simp only[List.length_append]at hlen;obtain⟨⟨f1,f2⟩,f3,f4⟩:=h.bs _ (List.getElem_mem ck);have ct:=tD e.body[k].1 4 (aF e.body[k].2 4++(e.body.drop (k+1)).flatMap qo) (by simp only[List.length_append];omega) (by omega) f1 (by simp;omega) (by omega);have ct2:=tD e.body[k].2 4 ((e.body.drop (k+1)).flatMap qo) (by omega) (by omega) f3 (by simp;omega) (by omega);rw[<-hd]at ct;have hnl:=h.bl;simp[ck];refine ak [0] ct (by simp) (by simp) (by simp) (by simp) ?_;simp;refine ak [0] ct2 (by simp) (by simp) (by simp) (by simp) ?_;simp[wk];have hts:List.take (k+1) (List.map gS e.body)=List.take k (List.map gS e.body)++[gS e.body[k]]:=by rw[List.take_succ_eq_append_getElem (by simpa using ck)];simp
    exact⟨fun x hx=>by obtain⟨f,_,rfl⟩:=List.mem_map.1 (List.mem_of_mem_take hx);rfl,by omega,by omega,k+1,by omega,by omega,aE [(5,7)] (by simp[hts])⟩
   ·obtain rfl:k=e.body.length:=by omega
    simp[-aD,Tryz.results253];exact⟨[],by simp[hm,ht]⟩
theorem ON:Idle Tryz.prog 252:=by
 intro args w;refine callsD_of_wpS (c:=Tryz.f252.body.get!) Tryz.func252 rfl ?_;intro c₀ cs hc;have hsz:9<=(args++Array.replicate (Tryz.f252.ntmps-args.size) undef).size:=by
  have:Tryz.f252.ntmps=9:=rfl;simp;omega
 generalize args++Array.replicate (Tryz.f252.ntmps-args.size) undef=ts at hsz;show Code.wpS _ (Code.seq _ _) _ _ _ _;refine wpS_seq (wpS_region ?_);have hr:recoverD (c₀::cs)=none:=by
  obtain⟨⟩:=c₀;simp at hc;subst hc;rfl
 have hrun:∀(a:Act),(execOp a.eval {dst:=some 3,op:=Go.Op.call {callee:=Go.Callee.builtin Go.Builtin.recover,args:=#[],argTypes:=#[]},type:=20,pos:="entry.go:176",after:=#[],guard:=none}).run Tryz.prog w= .ok .recover w:=by
  intro a;rfl
 have h2:2<ts.size:=by omega
 have h3:3<ts.size:=by omega
 have h4:4<ts.size:=by omega
 have h5:5<ts.size:=by omega
 have he:∀(a:Act),a.tmps[4]?=some .nilIface->(execOp a.eval {dst:=some 5,op:=Op.binOp BinOp.neq 20 (Operand.tmp 4) (Operand.const Value.nilIface) 20,type:=4,pos:="entry.go:176",after:=#[{on:=0,ground:=Ground.data}],guard:=none}).run Tryz.prog w= .ok (.value (.bool false)) w:=by
  intro a h;simp[execOp,Act.eval,h];rfl
 have hmv:∀(a:Act),(execOp a.eval {dst:=some 4,op:=Op.move (Operand.tmp 2),type:=20,pos:="entry.go:176",after:=#[],guard:=none}).run Tryz.prog w= .ok (.value (a.eval (.tmp 2))) w:=fun a=>rfl;have has:∀(a:Act),(execOp a.eval {dst:=some 2,op:=Go.Op.assign (Go.Operand.tmp 3),type:=20,pos:="entry.go:176",after:=#[{on:=0,ground:=Go.Ground.data},{on:=0,ground:=Go.Ground.chain},{on:=0,ground:=Go.Ground.phase}],guard:=none}).run Tryz.prog w= .ok (.value (a.eval (.tmp 3))) w:=fun a=>rfl;simp only[wpOpsS,List.range,List.range.loop,List.size_toArray,List.length_cons,List.length_nil,List.getElem?_toArray,Region.wanted,hrun,hr,Exit.thenS,List.getElem?_cons_zero,List.getElem?_cons_succ,if_true,has,Oper.upon];refine wpS_seq (wpS_region ?_);simp only[wpOpsS,List.range,List.range.loop,List.size_toArray,List.length_cons,List.length_nil,List.getElem?_toArray,Region.wanted,List.getElem?_cons_zero,List.getElem?_cons_succ,if_true,hmv,Oper.upon,Exit.thenS];rw[he _ (by simp[Act.put,Act.eval,h2,h3,h4])];show Code.wpS _ (Code.cond _ _ _) _ _ _ _;refine wpS_cond (t:=false) (by simp[Act.put,Act.eval,h2,h3,h5]) ?_;refine wpS_of_wp (wp_skip ?_);refine⟨rfl,.returning,by obtain⟨⟩:=c₀;simp at hc;subst hc;rfl,?_⟩;exact⟨_,mP (vs:=[]) (by rfl),⟨_,rfl⟩,rfl,rfl⟩
theorem y9(e:eG)(h:V9 e)(hp:e.pack.length<=8000)(hok:e.Ok)(hr:e.right=true)(hm:e.st.m=[])(ht:e.st.t=[]):aB Tryz.prog 159 [cy e.pack] (.tp [dY e,.int 0]):=by
 have hE:=HP e h (by omega) hm ht;have hR:=vz e hok;rw[hr]at hR;refine bN (xs:=[cy e.pack]) (r:= .agg true [.p (dY e),.p (.int 0)]) (aO:=⟨[],[],5⟩) ?_ ?_
 ·refine A0 (d:=5) (rs:=[_,_]) [8] [] [] [(0,.p (cy e.pack)),(2,.obj 0 0),(3,.obj 1 0)] ⟨[(0,⟨49,15,[.p (.str []),.p .nil,.p (.str []),.p (.str []),.p (.str []),.p (.int 0),.p (.str []),.p (.int 0),.p .nil,.p (.int 0),.p (.int 0),.p (.int 0),.p (.int 0),.p (mz 0),.p .nil]⟩),(1,⟨29,1,[.p (.int 0)]⟩)],[],2⟩ mixed Tryz.func159 rfl (by kernel_rfl) (by kernel_rfl) (by simp[Tryz.ntmps159]) rfl rfl rfl rfl (by simp[Tryz.ntmps159]) rfl rfl rfl (by simp[r_,rF]) ON ⟨Tryz.f252,Tryz.func252,by kernel_rfl,by kernel_rfl⟩ ?_ ?_
  ·simp;exact⟨[(0,0),(1,1)],by simp,by simp⟩
  ·simp;have h8:decide ((8000:Int)<(e.pack.length:Int))=false:=by simp;omega
   refine ak [2] hE (by simp) (by simp) (by simp[ay]) (by simp) ?_;simp[h8];refine ai hR rfl ?_;simp
   done
 ·simp[cQ,AV.pc,ie]
end Go.Av
namespace Go.aW
open Go.Av
theorem JS(k:Nat):secs k []=[]:=by cases k<;>simp[secs]
theorem vV:∀(k:Nat) (b:List UInt8),b.length<=k->∃z,(secs k b).flatten=b++List.replicate z 0
 |0,b,h=>⟨0,by have:b=[]:=List.eq_nil_of_length_eq_zero (by omega);subst this;simp[secs]⟩
 |k+1,b,h=>by
  by_cases c:b=[]
  ·subst c;exact⟨0,by simp[secs]⟩
  ·have hl:0<b.length:=List.length_pos_iff.2 c;rw[secs,if_neg c,List.flatten_cons];by_cases c2:64<=b.length
   ·obtain⟨z,hz⟩:=vV k (b.drop 64) (by simp;omega);refine⟨z,?_⟩;rw[hz,show 64-b.length=0 by omega,List.replicate_zero,List.append_nil,<-List.append_assoc,List.take_append_drop]
   ·rw[List.drop_of_length_le (by omega),List.take_of_length_le (by omega),JS];exact⟨64-b.length,by simp⟩
theorem vW(b:List UInt8):∃z,(bn b).flatten=b++List.replicate z 0:=vV _ b (Nat.le_refl _)
theorem vX{b:List UInt8}(h:b.length%64=0):(bn b).flatten=b:=by
 obtain⟨z,hz⟩:=vW b;have h1:=sV (kR b);rw[eI,hz,List.length_append,List.length_replicate]at h1;obtain rfl:z=0:=by omega
 rw[hz];simp
theorem JT(n:Nat)(h:n<65536):(UInt8.ofNat (n/256)).toNat*256+(UInt8.ofNat n).toNat=n:=by
 rw[UInt8.toNat_ofNat',UInt8.toNat_ofNat'];have:(2:Nat)^8=256:=rfl;omega
theorem Bz{b:List UInt8}(h:b.length<=505):(gZ 1 b).2=0/\(gZ 1 b).1.length=512/\kS (gZ 1 b).1=(1,b,0):=by
 have e:gZ 1 b=(frame (UInt8.ofNat (1:Int).toNat::UInt8.ofNat (b.length/256)::UInt8.ofNat b.length::(b++List.replicate (505-b.length) 0)),0):=by
  unfold gZ;rw[if_neg (by omega),if_neg (by omega)]
 have hl:(gZ 1 b).1.length=512:=by rw[e,fZ];simp;omega
 refine⟨by rw[e],hl,?_⟩;unfold kS;rw[e]at hl⊢;simp only at hl⊢;rw[qd];rw[if_neg (by simp only;omega)];have hs:=JT b.length (by omega);simp only[List.getD_cons_zero,List.getD_cons_succ];rw[hs];have hd:(UInt8.ofNat (1:Int).toNat::UInt8.ofNat (b.length/256)::UInt8.ofNat b.length::(b++List.replicate (505-b.length) 0)).drop (3+b.length)=List.replicate (505-b.length) 0:=by
  rw[show 3+b.length=b.length+1+1+1 by omega];simp only[List.drop_succ_cons];exact List.drop_left' rfl
 rw[hd];have ha:((List.replicate (505-b.length) (0:UInt8)).any fun c=>!(c==0))=false:=by
  rw[List.any_eq_false];intro x hx;rw[(List.mem_replicate.1 hx).2];simp
 have h1:(UInt8.ofNat (1:Int).toNat).toNat=1:=by decide
 rw[ha,h1,if_neg (by simp;omega)];simp[List.take_left']
theorem JU{N:Nat}{D:aU}(h:Gd N D){a:Nat}{b:List UInt8}(hb:b.length<=505)(ha:a+8<=N):(j_ D a 1 b).2=0/\Gd N (j_ D a 1 b).1/\(j_ D a 1 b).1.now=ov D.now a (bn (gZ 1 b).1)/\(j_ D a 1 b).1.q.length=D.q.length+8/\(bn (gZ 1 b).1).length=8:=by
 obtain⟨p1,p2,p3⟩:=Bz hb;have hc:(bn (gZ 1 b).1).length=8:=by rw[eI,p2]
 obtain⟨w1,w2,w3,w4,w5⟩:=h.write (a:=a) (l:=bn (gZ 1 b).1) (by omega) (kR _);unfold j_;rw[if_pos p1];exact⟨w1,w2,w3,by rw[w5,hc],hc⟩
theorem JV{N:Nat}{D:aU}(h:Gd N D){a:Nat}{b:List UInt8}(hb:b.length<=505)(ha:a+8<=N)(hs:seg D.now a 8=bn (gZ 1 b).1):(fF D a).2=(1,b,0)/\Gd N (fF D a).1/\(fF D a).1.now=D.now/\(fF D a).1.q=D.q:=by
 obtain⟨p1,p2,p3⟩:=Bz hb;obtain⟨r1,r2,r3,r4,r5⟩:=h.read (a:=a) (n:=8) ha;unfold fF;rw[show((8:Nat):Int)=8 from rfl]at r1 r2 r3 r5;rw[if_pos (by rw[r1])];refine⟨?_,r2,r3,r5⟩;simp only;rw[r1];simp only;rw[hs,vX (by rw[p2]),p3]
theorem JW{e:eG}(hp:e.pack.length<=8000)(un:List UInt8->eG×Int)(hu:un e.pack=(e,0)):OM un (jI e).flatten=(e,0)/\z7 (jI e).flatten=e.pack:=by
 obtain⟨z,hz⟩:=vW (frame (aF e.pack.length 2++e.pack));have hS:(jI e).flatten=frame (aF e.pack.length 2++e.pack)++List.replicate z 0:=hz;have b2:(aF (e.pack.length:Int) 2).length=2:=aY _ _;have hF:(frame (aF e.pack.length 2++e.pack)).length=e.pack.length+6:=by rw[fZ,List.length_append,b2];omega
 have ht:((jI e).flatten.take 2)=aF e.pack.length 2:=by
  rw[hS];unfold frame;rw[List.append_assoc,List.append_assoc];rw[List.take_left' b2]
 have hN:sW (jI e).flatten=e.pack.length+2:=by
  unfold sW;rw[ht,sX 2 _ (by omega) (by simp;omega) (by omega)]
 have hT:(jI e).flatten.take (sW (jI e).flatten+4).toNat=frame (aF e.pack.length 2++e.pack):=by
  rw[hN,show((e.pack.length:Int)+2+4).toNat=e.pack.length+6 by omega,hS];exact List.take_left' hF
 have hO:z7 (jI e).flatten=e.pack:=by
  unfold z7;rw[hT,qd];exact List.drop_left' b2
 refine⟨?_,hO⟩;unfold OM;rw[if_neg (by rw[hN,hS,List.length_append,hF];omega),hT,qd,if_pos rfl,hO,hu,if_pos rfl]
theorem O2{t N:Nat}(wu:1<=N/\N<=65536)(l:List cU)(w:Sm)(m n:Nat)(vt:∀s∈l,s.length=64)(hF:w.s.rm.F=[(m,n)])(hb:w.e.body=mo m)(hl:l.length<n)(hn:m+n<=w.s.rm.n)(hS:ic t w.s)(hG:Gd N w.s.D)(hq:w.s.D.q.length+l.length<=t*t):∀k w',k<l.length->dW (l.take k) w=(w',0)->pU t w':=by
 intro k w' hk hw;have hlk:(l.take k).length=k:=by simp;omega
 obtain⟨r,R,D,e1,e2,e3,e4,e5,e6,e7⟩:=wv wu (l.take k) w m n (fun s hs=>vt s (List.mem_of_mem_take hs)) hF hb (by omega) hn hS hG (by omega);rw[e3,hlk]at hw;rw[hlk]at e7;injection hw with hw _;subst hw;exact yX (m:=m+k) (n:=n-k) rfl rfl (by omega) (by simp only;omega) e7
theorem Fy(s:Nat)(a b:List UInt8):tc (tc s a) b=tc s (a++b):=by
 unfold tc;rw[BI,Nat.xor_assoc,Nat.xor_self,Nat.xor_zero]
structure wF(N t r:Nat)(s0:St)(e0:eG)(b:List UInt8)(w:Sm):Prop where
 hs:∃D R,w.s={s0 with D:=D,rm:={s0.rm with F:=[(b.length/64,s0.rm.n-b.length/64)],R:=R}}
 he:w.e={e0 with size:=b.length,sum:=tc 0 b,body:=mo (b.length/64)}
 rest:w.rest=b.drop (64*(b.length/64))
 ended:w.ended=false
 kept:w.kept=false
 ok:ic t w.s
 gd:Gd N w.s.D
 q:w.s.D.q.length<=s0.D.q.length+b.length/64
 low:∀a n,a+n<=r->seg w.s.D.now a n=seg s0.D.now a n
 cont:(seg w.s.D.now r (b.length/64)).flatten=b.take (64*(b.length/64))
structure SmS(N t r:Nat)(s0:St):Prop where
 n2:1<=N/\N<=65536
 lay:cG s0.jn s0.pn=(r:Int)
 rN:r+s0.rm.n=N
 q:s0.D.q.length<=100
 t:1000<=t/\t<=20000
theorem wF.afn{N t r:Nat}{s0:St}{e0:eG}{b:List UInt8}{w:Sm}(h:wF N t r s0 e0 b w)(hs:SmS N t r s0){l:List cU}(vt:∀s∈l,s.length=64)(hl:b.length/64+l.length<s0.rm.n)(hb:b.length/64+l.length<=60000)(x:List UInt8):∃R D,dW l (w.cnt x)=({w.cnt x with s:={s0 with D:=D,rm:={s0.rm with F:=[(b.length/64+l.length,s0.rm.n-(b.length/64+l.length))],R:=R}},e:={(w.cnt x).e with body:=mo (b.length/64+l.length)}},0)/\Gd N D/\D.now=ov w.s.D.now (r+b.length/64) l/\D.q.length=w.s.D.q.length+l.length/\ic t {s0 with D:=D,rm:={s0.rm with F:=[(b.length/64+l.length,s0.rm.n-(b.length/64+l.length))],R:=R}}/\∀k w',k<l.length->dW (l.take k) (w.cnt x)=(w',0)->pU t w':=by
 obtain⟨D0,R0,h1⟩:=h.hs;have hok:=h.ok;have hgd:=h.gd;have hq:=h.q;have hqs:=hs.q;have ht:t*t>=1000*t:=Nat.mul_le_mul_right _ hs.t.1;have Vy:=hs.t;have hF:(w.cnt x).s.rm.F=[(b.length/64,s0.rm.n-b.length/64)]:=by show w.s.rm.F=_;rw[h1]
 have hbd:(w.cnt x).e.body=mo (b.length/64):=by show w.e.body=_;rw[h.he]
 have hn:b.length/64+(s0.rm.n-b.length/64)<=(w.cnt x).s.rm.n:=by show _<=w.s.rm.n;rw[h1];simp only;omega
 have hqq:(w.cnt x).s.D.q.length+l.length<=t*t:=by show w.s.D.q.length+l.length<=t*t;omega
 obtain⟨r',R,D,e1,e2,e3,e4,e5,e6,e7⟩:=wv hs.n2 l (w.cnt x) (b.length/64) (s0.rm.n-b.length/64) vt hF hbd (by omega) hn hok hgd hqq;have hC:=O2 hs.n2 l (w.cnt x) (b.length/64) (s0.rm.n-b.length/64) vt hF hbd (by omega) hn hok hgd hqq;have hr:r'=r:=by
  have Jj:cG w.s.jn w.s.pn=(r':Int):=e1;rw[h1]at Jj;have:=hs.lay;simp only at Jj;omega
 subst hr;rw[show s0.rm.n-b.length/64-l.length=s0.rm.n-(b.length/64+l.length) by omega]at e3 e7;have hcs:(w.cnt x).s={s0 with D:=D0,rm:={s0.rm with F:=[(b.length/64,s0.rm.n-b.length/64)],R:=R0}}:=h1;rw[hcs]at e3 e7;exact⟨R,D,e3,e4,e5,e6,e7,hC⟩
theorem wF.write{N t r:Nat}{s0:St}{e0:eG}{b:List UInt8}{w:Sm}(h:wF N t r s0 e0 b w)(hs:SmS N t r s0)(x:List UInt8)(hx:(b.length+x.length)/64<s0.rm.n)(hx2:b.length+x.length<=1000000):(w.write x).2=0/\wF N t r s0 e0 (b++x) (w.write x).1/\∀k w',k<(bn ((w.rest++x).take ((w.rest++x).length/64*64))).length->dW ((bn ((w.rest++x).take ((w.rest++x).length/64*64))).take k) (w.cnt x)=(w',0)->pU t w':=by
 have hrl:w.rest.length=b.length-64*(b.length/64):=by rw[h.rest];simp
 obtain⟨B,hB⟩:∃B,w.rest++x=B:=⟨_,rfl⟩;have hBl:B.length=b.length-64*(b.length/64)+x.length:=by rw[<-hB,List.length_append,hrl]
 have yY:b++x=b.take (64*(b.length/64))++B:=by rw[<-hB,h.rest,<-List.append_assoc,List.take_append_drop]
 have hbt:(b.take (64*(b.length/64))).length=64*(b.length/64):=by simp;omega
 obtain⟨k,hk⟩:∃k,B.length/64=k:=⟨_,rfl⟩;have hm:(b++x).length/64=b.length/64+k:=by rw[List.length_append];omega
 have Kb:(B.take (k*64)).length=k*64:=by simp;omega
 have VI:(bn (B.take (k*64))).length=k:=by rw[eI,Kb];omega
 have hfl:=vX (b:=B.take (k*64)) (by rw[Kb];omega);rw[List.length_append]at hm;obtain⟨R,D,e1,e2,e3,e4,e5,e6⟩:=h.afn hs (l:=bn (B.take (k*64))) (kR _) (by omega) (by omega) x;rw[VI]at e1 e4 e5;rw[hB,hk];have VJ:=h.gd.nl;have hrN:=hs.rN;unfold Sm.write;rw[hB,hk,e1];refine⟨rfl,?_,e6⟩;refine⟨⟨D,R,by rw[List.length_append,hm]⟩,?_,?_,h.ended,h.kept,e5,e2,?_,fun a n ha=>?_,?_⟩
 ·simp only[Sm.cnt];rw[h.he];simp only[List.length_append,hm,Fy,Int.natCast_add]
 ·simp only;have Dw:(b.take (64*(b.length/64))).drop (64*(b.length/64+k))=[]:=List.drop_of_length_le (by rw[hbt];omega);rw[List.length_append,hm,yY,List.drop_append,hbt,Dw,List.nil_append];congr 1;omega
 ·have:=h.q;rw[List.length_append];simp only;omega
 ·simp only;rw[e3,bG (by rw[VI,VJ];omega) (.inl (by omega)),h.low a n ha]
 ·simp only;rw[List.length_append,hm,e3,lC,bG (by rw[VI,VJ];omega) (.inl (by omega)),List.flatten_append,h.cont];have hin:=fe (L:=w.s.D.now) (a:=r+b.length/64) (l:=bn (B.take (k*64))) (by rw[VI,VJ];omega);rw[VI]at hin;have lZ:(b.take (64*(b.length/64))).take (64*(b.length/64+k))=b.take (64*(b.length/64)):=List.take_of_length_le (by rw[hbt];omega);rw[hin,hfl,yY,List.take_append,hbt,lZ];congr 2;omega
theorem wF.last{N t r:Nat}{s0:St}{e0:eG}{b:List UInt8}{w:Sm}(h:wF N t r s0 e0 b w)(hs:SmS N t r s0)(hx:(b.length+63)/64<s0.rm.n)(hx2:b.length<=1000000):∃R D,dW (bn w.rest) w=({w with s:={s0 with D:=D,rm:={s0.rm with F:=[((b.length+63)/64,s0.rm.n-(b.length+63)/64)],R:=R}},e:={w.e with body:=mo ((b.length+63)/64)}},0)/\Gd N D/\D.q.length<=s0.D.q.length+(b.length+63)/64/\ic t {s0 with D:=D,rm:={s0.rm with F:=[((b.length+63)/64,s0.rm.n-(b.length+63)/64)],R:=R}}/\(∀a n,a+n<=r->seg D.now a n=seg s0.D.now a n)/\(∃z,(seg D.now r ((b.length+63)/64)).flatten=b++List.replicate z 0)/\∀k w',k<(bn w.rest).length->dW ((bn w.rest).take k) w=(w',0)->pU t w':=by
 have hrl:w.rest.length=b.length-64*(b.length/64):=by rw[h.rest];simp
 have VI:(bn w.rest).length=(b.length+63)/64-b.length/64:=by rw[eI,hrl];omega
 have hw:w.cnt []=w:=by
  unfold Sm.cnt;have h0:tc w.e.sum []=w.e.sum:=by rw[h.he];simp only;rw[Fy,List.append_nil]
  rw[h0];simp
 obtain⟨R,D,e1,e2,e3,e4,e5,e6⟩:=h.afn hs (l:=bn w.rest) (kR _) (by omega) (by omega) [];rw[hw]at e1 e6;rw[show b.length/64+(bn w.rest).length=(b.length+63)/64 by omega]at e1 e5;have VJ:=h.gd.nl;have hrN:=hs.rN;refine⟨R,D,e1,e2,?_,e5,fun a n ha=>?_,?_,e6⟩
 ·have:=h.q;omega
 ·rw[e3,bG (by rw[VJ];omega) (.inl (by omega)),h.low a n ha]
 ·obtain⟨z,hz⟩:=vW w.rest;refine⟨z,?_⟩;have hin:=fe (L:=w.s.D.now) (a:=r+b.length/64) (l:=bn w.rest) (by rw[VJ];omega);rw[show(b.length+63)/64=b.length/64+(bn w.rest).length by omega,e3,lC,hin,bG (by rw[VJ];omega) (.inl (by omega)),List.flatten_append,h.cont,hz,h.rest,<-List.append_assoc,List.take_append_drop]
end Go.aW
namespace Go.Av
open Go.Proofs Go.aW
@[reducible]def HS(key:List UInt8):Ob:=⟨9,1,[.p (.str key)]⟩
@[reducible]def knO(k:Kn):Ob:=⟨159,4,[.p (.str k.key),.p (.int k.order),.p (.int k.place),.p (.sl (k.body.map gS))]⟩
theorem LK(t:Nat)(c:Cs)(h:fq t c)(ht:t<=20000)(root:Int)(hroot:jT root)(key:List UInt8)(k:Kn)(sQ:key.length<=1000000):aI Tryz.prog 149 [.obj 20 0,.obj 21 0,.obj 22 0] ⟨jf.B 0 8 c++[(20,cJ root),(21,HS key),(22,knO k)],jG 8,23⟩ (.p (.int (bA.mS c root key k.place).e)) ⟨jf.B 0 23 (bA.mS c root key k.place).s++[(20,cJ (bA.mS c root key k.place).root),(21,HS key),(22,knO k)],jG 23,35⟩:=by
 have hp:=VP t c h ht root hroot key k.place sQ;generalize bA.mS c root key k.place=R at hp⊢;refine QgQ (rs:=[_]) [] [] [] Tryz.func149 rfl (by simp[Tryz.ntmps149]) ?_;simp;refine ak (pN 8 [20]) hp (by simp) (by simp) (by simp) (by simp) ?_;simp[-aD,Tryz.results149];exact⟨[],by simp⟩
theorem VA(t t2:Nat)(s:St)(h:ic t s)(ht:t<=20000)(count:Int)(key:List UInt8)(k:Kn)(sQ:key.length<=1000000)(hR:(s.sM key k.place).e=0)(h2:fq t2 (s.sM key k.place).s)(Vy:t2<=30000)(hd:((s.sM key k.place).s.s.aX (s.sM key k.place).root count).2.1=true):aI Tryz.prog 148 [.obj 6 0,.p (.int count),.jZ (.func 149) [.obj 17 0,.obj 18 0]] ⟨(17,HS key)::(18,knO k)::bF 0 7 s,eR 7,19⟩ (.agg true [.p (.bool true),.p (.int (s.DG count key k.place).2)]) ⟨(17,HS key)::(18,knO k)::bF 0 19 (s.DG count key k.place).1,eR 19,29⟩:=by
 have hroot:=h.root;have htu:=LK t ⟨s,[],[]⟩ ⟨h,by simp,by simp,by simp,by simp⟩ ht s.root hroot key k sQ;rw[show bA.mS ⟨s,[],[]⟩ s.root key k.place=s.sM key k.place from rfl,hR]at htu;have Z':=Lb s.root;obtain⟨Z,hZ⟩:∃Z,s.DG count key k.place=Z:=⟨_,rfl⟩;rw[hZ];unfold St.DG at hZ;obtain⟨R,hRe⟩:∃R,s.sM key k.place=R:=⟨_,rfl⟩;rw[hRe]at htu hZ h2 hd;clear hRe hR;have hro:=QK R.s R.root;have hco:=HT t2 R.s.s h2.s Vy R.root count;have jJ:(R.s.s.aX R.root count).1.sl=R.s.s.sl:=rfl;obtain⟨C,hC⟩:∃C,R.s.s.aX R.root count=C:=⟨_,rfl⟩;rw[hC]at hd hZ hco jJ;obtain⟨u,b,e⟩:=C;simp only at hd hZ hco jJ;subst hd;have hgi:=QL u (by rw[jJ];exact h2.s.sl) R.s.old (by have:=h2.old;omega);refine iA (rs:=[_,_]) [14] [] [] Tryz.func148 rfl (by kernel_rfl) (by kernel_rfl) (by simp[Tryz.ntmps148]) rfl ?_;refine bS mixed (fun _:Unit=>True) (fun _=>[(0,.obj 6 0),(1,.p (.int count)),(2,.jZ (.func 149) [.obj 17 0,.obj 18 0])]) (fun _=>⟨(17,HS key)::(18,knO k)::bF 0 7 s,eR 7,19⟩) ?_ (fun _ _=>?_)
 ·simp[bF,aC,ax,bZ,bT,bP,b_];exact aA (by simp)
 refine bS mixed (fun _:Unit=>True) (fun _=>[(0,.obj 6 0),(1,.p (.int count)),(2,.jZ (.func 149) [.obj 17 0,.obj 18 0]),(8,.obj 19 0)]) (fun _=>⟨(19,⟨278,3,[.obj 6 0,.p .nil,.p .nil]⟩)::(17,HS key)::(18,knO k)::bF 0 7 s,eR 7,20⟩) ?_ (fun _ _=>?_)
 ·simp[bF,aC,ax,bZ,bT,bP,b_];exact aA (by simp)
 refine oA (iu 19 1 3 1 ⟨278,3,[.obj 6 0,.p .nil,.p .nil]⟩ [] rfl (.inr ⟨rfl,rfl⟩)) ?_;refine oA (iu 19 2 3 1 ⟨278,3,[.obj 6 0,.own 20 [],.p .nil]⟩ [] rfl (.inr ⟨rfl,rfl⟩)) ?_;refine ga mixed ?_;simp[bF,aC,ax,bZ,bT,bP,b_,Tb.aQ,Tb.bX,del];refine ak [19] Z' (by simp) (by simp) (by simp) (by simp) ?_;simp;refine c_ [0,1,2,3,4,5,6,19,7,8,9,10,11,12,13,14,15,16,20,21,22,17,18] htu (by simp) (by simp) (by simp[ay,jf,qL,yT,bF,aC,ax,bZ,bT,bP,b_]) (by simp[ay]) ?_;simp[jf,qL,yT,bF,aC,ax,bZ,bT,bP,b_];refine ak [0,1,2,3,4,5,6,19,23,24,25,26,27,28,29,30,31,32,33,34,22] hro (by simp) (by simp) (by simp[ay,jf,qL,yT,bF,aC,ax,bZ,bT,bP,b_]) (by simp[ay]) ?_;simp[jf,qL,yT,bF,aC,ax,bZ,bT,bP,b_];refine ak [0,1,2,3,4,5,6,23,24,25,26,27,28,29,30,31,32] hco (by simp) (by simp) (by simp[ay,bF,aC,ax,bZ,bT,bP,b_]) (by simp[ay]) ?_;simp[bF,aC,ax,bZ,bT,bP,b_];refine ak [0,1,2,3,4,5,6,35,36,37,38,39,40,41,42,43,44] hgi (by simp) (by simp) (by simp[ay,bF,aC,ax,bZ,bT,bP,b_]) (by simp[ay]) ?_;rw[<-hZ];simp[-aD,bF,aC,ax,bZ,bT,bP,b_,Tryz.results148];exact⟨[(19,45),(20,46),(21,47),(22,48),(23,49),(24,50),(25,51),(26,52),(27,53),(28,54)],by simp⟩
theorem DJ(l:List Kn)(hl:l.length<=1000000)(k:Kn):aI Tryz.prog 152 [.view 0 0 l.length 4 none,.p (.int l.length),.p (.sl [PF k])] ⟨[(0,bP l)],[],1⟩ (.view 1 0 (l.length+1) 4 none) ⟨[(1,bP (l++[k]))],[],2⟩:=by
 have lZ:List.take (l.length*4) (List.map AV.p (w_ l))=List.map AV.p (w_ l):=List.take_of_length_le (by simp);have nT:w_ [k]=[PC.str k.key,.int k.order,.int k.place,.sl (k.body.map gS)]:=rfl;refine QgQ (rs:=[_]) [] [(11,[(8,.w [])]),(15,[(8,.w [])])] [] Tryz.func152 rfl (by simp[Tryz.ntmps152]) ?_;simp[-aD,bP,FV,nT,lZ,Tryz.results152];exact⟨by omega,by omega,[],by simp⟩
end Go.Av
namespace Go.aW
open Go.Av
def St.BA(s1:St)(kind:Int)(k:Kn):St×Int:=(({(s1.DG (s1.ix.length+1) k.key k.place).1 with ix:=s1.ix++[k]}:St).wrote kind (s1.DG (s1.ix.length+1) k.key k.place).2 k.key,(s1.DG (s1.ix.length+1) k.key k.place).2)
end Go.aW
namespace Go.Av
open Go.Proofs Go.aW
theorem afk(t t2 t3:Nat)(s s1:St)(e:eG)(he:e.Ok)(x:Int×Int)(hx:(0<=x.1/\x.1<=65536)/\0<=x.2/\x.2<=255)(hF:zZ s.sl.F)(OO:s.ix.length<=100000)(hsp:4*depth s.ix.length+4<=yz s.sl.F)(DH:aI Tryz.prog 147 [.obj 6 0,.p (dY e)] ⟨bF 0 7 s,eR 7,17⟩ (.agg true [.p (gS x),.p (.int 0)]) ⟨bF 0 17 s1,eR 17,27⟩)(Bm:s1.ix=s.ix)(h1:ic t s1)(ht:t<=20000)(k:Kn)(hk:k=⟨e.uri++10::e.var,e.order,x.1*256+x.2,e.body⟩)(sQ:k.key.length<=1000)(dS:DI s.ix k.key=false/\sY s.ix k.key=s.ix.length)(hR:(s1.sM k.key k.place).e=0)(h2:fq t2 (s1.sM k.key k.place).s)(Vy:t2<=30000)(hd:((s1.sM k.key k.place).s.s.aX (s1.sM k.key k.place).root (s1.ix.length+1)).2.1=true)(hTx:(s1.DG (s1.ix.length+1) k.key k.place).1.ix=s1.ix)(h3:ic t3 {(s1.DG (s1.ix.length+1) k.key k.place).1 with ix:=s1.ix++[k]})(ht3:t3<=30000):aI Tryz.prog 60 [.obj 6 0,.p (.int 1),.p (dY e)] ⟨bF 0 7 s,eR 7,17⟩ (.agg true [.p (.bool true),.p (.int (s1.BA 1 k).2)]) ⟨bF 0 17 (s1.BA 1 k).1,eR 17,27⟩:=by
 have hK:=Fq e.uri e.var he.uri he.var;have hs:=JX s hF (by omega) hsp;have ha:=Vz s1 (by rw[Bm];omega) k.key;rw[Bm,dS.1,dS.2]at ha;have htx:=VA t t2 s1 h1 ht (s1.ix.length+1) k.key k (by omega) hR h2 Vy hd;have amy:=DJ s.ix (by omega) k;have lg:=JY t3 _ h3 ht3 1 (s1.DG (s1.ix.length+1) k.key k.place).2 k.key (by omega);obtain⟨Z,hZ⟩:∃Z,s1.BA 1 k=Z:=⟨_,rfl⟩;rw[hZ];unfold St.BA at hZ;obtain⟨T,hT⟩:∃T,s1.DG (s1.ix.length+1) k.key k.place=T:=⟨_,rfl⟩;rw[hT]at htx lg hZ hTx;obtain⟨u,c⟩:=T;simp only at htx lg hZ hTx;clear h2 hR hd h3;rw[Bm]at htx lg hZ hTx;have w1:IntKind.i64.wrap (x.1*256)=x.1*256:=af (by omega) (by omega);have w2:IntKind.i64.wrap (x.1*256+x.2)=x.1*256+x.2:=af (by omega) (by omega);have w3:IntKind.i64.wrap ((s.ix.length:Int)+1)=(s.ix.length:Int)+1:=af (by omega) (by omega);obtain⟨V,hV⟩:∃V,St.wrote {u with ix:=s.ix++[k]} 1 c k.key=V:=⟨_,rfl⟩;rw[hV]at lg hZ;rw[<-hZ];subst hk;simp only at*;refine QgQ (rs:=[_,_]) [] [(20,[(4,.r 1),(6,.r 2),(8,.w [1,2]),(11,.s 1 [])])] [(1,6),(2,29)] Tryz.func60 rfl (by simp[Tryz.ntmps60]) ?_;simp[bF,aC,ax,bZ,bT,bP,b_];refine ai hK (by simp) ?_;simp;refine ak [0,1,2,3,4,5,6,7,8,9,10,11,12,13,14,15,16] hs (by simp) (by simp) (by simp[ay,bF,aC,ax,bZ,bT,bP,b_]) (by simp[ay]) ?_;simp[bF,aC,ax,bZ,bT,bP,b_];refine ak [0,1,2,3,4,5,6,7,8,9,10,11,12,13,14,15,16] DH (by simp) (by simp) (by simp[ay,bF,aC,ax,bZ,bT,bP,b_]) (by simp[ay]) ?_;simp[bF,aC,ax,bZ,bT,bP,b_,Bm,w1,w2];refine ak [0,1,2,3,4,5,6,18,19,20,21,22,23,24,25,26,27] ha (by simp) (by simp) (by simp[ay,bT,bP,Bm]) (by simp) ?_;simp[bT,bP,Bm,w3];refine ak [0,1,2,3,4,5,6,18,19,20,21,22,23,24,25,26,27,17,29] htx (by simp) (by simp) (by simp[ay,bF,aC,ax,bZ,bT,bP,b_,Bm]) (by simp[ay]) ?_;simp[bF,aC,ax,bZ,bT,bP,b_,hTx];refine ak [38] amy (by simp) (by simp) (by simp[ay,bP]) (by simp) ?_;simp[bP];refine ak [0,1,2,3,4,5,6,30,31,32,33,34,35,36,37,40,39] lg (by simp) (by simp) (by simp[ay,bF,aC,ax,bZ,bT,bP,b_]) (by simp[ay]) ?_;simp[-aD,bF,aC,ax,bZ,bT,bP,b_,Tryz.results60];exact⟨[(17,41),(18,42),(19,43),(20,44),(21,45),(22,46),(23,47),(24,48),(25,49),(26,50)],by simp⟩
end Go.Av
namespace Go.aW
open Go.Av
open Go.cI (Nd rB l_ ey)
theorem Fb{n:Nd}(hr:rB n=true):nD (h_ n.lf n.ks n.vs)=(n,0):=by
 have h:fc n.lf n.ks n.vs=true:=by rw[kL];exact hr
 obtain⟨l,ks,vs⟩:=n;simp only at h⊢;obtain⟨_,k4,hf,C9⟩:=pq h;have e:h_ l ks vs=(if l then 1 else 2)::UInt8.ofNat ks.length::(dI ks++dM vs):=by simp[h_,kC]
 have t:(UInt8.ofNat ks.length).toNat=ks.length:=by simp;omega
 unfold nD;rw[e,xI];simp only;rw[xI];simp only;rw[t];have hK:qU ks.length (dI ks++dM vs,false)=(ks,(dM vs,false)):=by
  have:=Im (R:=dM vs) C9 ks.length (Nat.le_refl _);simpa[dI,qU]using this
 have hm:vs.length=ks.length+(if l then 0 else 1):=by simpa[nO]using hf
 have hV:Fs (if l then 1 else 2:UInt8).toNat ks.length (dM vs,false)=(vs,([],false)):=by
  have e2:ks.length+(if(if l then 1 else 2:UInt8).toNat=1 then 0 else 1)=vs.length:=by rw[hm];cases l<;>simp
  unfold Fs;rw[e2,Q_ [] _ _ (by rw[Cz];omega)];congr 1
  ·apply List.ext_getElem
   ·simp
   ·intro i h1 h2;have yZ:i<vs.length:=h2;simp[Mm yZ,Ml (EC h _ (List.getElem_mem yZ))]
  ·rw[List.drop_of_length_le (by rw[Cz];omega)]
 rw[hK];simp only;rw[hV];cases l<;>simp[u9,h]
def oa(key:List UInt8)(v:Int):Nd:=⟨true,[key],[v]⟩
theorem Ts(key:List UInt8)(v:Int):Go.cI.iG Go.cI.tg key v=oa key v:=by
 rw[Go.cI.MC rfl rfl];simp[Go.cI.tg,oa,Go.cI.bY]
theorem Fc{key:List UInt8}{v:Int}(h:Go.cI.jY key v=true):rB (oa key v)=true:=by
 unfold Go.cI.jY at h;simp only[Bool.and_eq_true,decide_eq_true_eq]at h;simp[rB,oa,Go.cI.AH,h]
def Jm(key:List UInt8)(v:Int):List cU:=bn (gZ 1 (h_ true [key] [v])).1
theorem ZY{N:Nat}{c:Cs}{key:List UInt8}{v:Int}{n j:Nat}(hk:Go.cI.jY key v=true)(hF:c.s.sl.F=[(0,n)])(h1:1<n)(hG:Gd N c.s.D)(hj:c.s.jn=(j:Int))(hN:1+j+8<=N):∃R D,c.sv (oa key v)=({c with s:={c.s with sl:={c.s.sl with F:=[(1,n-1)],R:=R},D:=D},saved:=c.saved++[0]},1,0)/\Gd N D/\D.now=ov c.s.D.now (1+j) (Jm key v)/\D.q.length=c.s.D.q.length+8/\(Jm key v).length=8:=by
 have hr:=Fc hk;have hpl:=uv (oa key v) hr;obtain⟨R,hR⟩:=take_one (M:=c.s.sl) (k:=1) hF (by omega) h1;rw[show((1:Nat):Int)=1 from rfl]at hR;have ha:vq c.s.jn ((0:Nat):Int)=((1+j:Nat):Int):=by unfold vq;rw[hj];omega
 obtain⟨w1,w2,w3,w4,w5⟩:=JU hG (a:=1+j) (b:=h_ true [key] [v]) (by have:(h_ true [key] [v]).length<=500:=hpl;omega) hN;refine⟨R,(j_ c.s.D ((1+j:Nat):Int) 1 (h_ true [key] [v])).1,?_,w2,w3,w4,w5⟩;unfold Cs.sv;rw[if_pos hr,hR];simp only[if_true];rw[ha];show(_,_,(j_ c.s.D ((1+j:Nat):Int) 1 (h_ true [key] [v])).2)=_;rw[w1];simp[oa]
theorem W4{N:Nat}{s:St}{key:List UInt8}{v:Int}{n j:Nat}(hk:Go.cI.jY key v=true)(hroot:s.root=0)(hF:s.sl.F=[(0,n)])(h1:1<n)(hG:Gd N s.D)(hj:s.jn=(j:Int))(hN:1+j+8<=N):∃R D,s.sM key v=⟨⟨{s with sl:={s.sl with F:=[(1,n-1)],R:=R},D:=D},[0],[]⟩,1,0,false,0⟩/\Gd N D/\D.now=ov s.D.now (1+j) (Jm key v)/\D.q.length=s.D.q.length+8/\(Jm key v).length=8/\s.sM key v=s.sM key v/\(bA.mS ⟨s,[],[]⟩ 0 key v).s=(Cs.sv ⟨s,[],[]⟩ (oa key v)).1:=by
 obtain⟨R,D,h2,h3,h4,h5,h6⟩:=ZY (c:=⟨s,[],[]⟩) hk hF h1 hG hj hN;have hw:bA.way key 40 ⟨s,[],[]⟩ 0 []=(⟨s,[],[]⟩,[],0):=by unfold ey.way;simp
 have hsv:bA.sv ⟨s,[],[]⟩ (oa key v)=Cs.sv ⟨s,[],[]⟩ (oa key v):=rfl;have hl4:(oa key v).ks.length<=4:=by simp[oa]
 have hp:bA.mS ⟨s,[],[]⟩ 0 key v=⟨(Cs.sv ⟨s,[],[]⟩ (oa key v)).1,1,0,false,0⟩:=by
  unfold ey.mS;rw[if_pos hk,hw];simp only[if_true];unfold ey.BM ey.kT;simp only[List.getLast?_nil];rw[Ts];unfold ey.put;rw[if_pos hl4,hsv,h2];simp[ey.fW,ey.gV,Go.cI.nG]
 refine⟨R,D,?_,h3,h4,h5,h6,rfl,by rw[hp]⟩;have e:s.sM key v=bA.mS ⟨s,[],[]⟩ 0 key v:=by unfold St.sM;rw[hroot]
 rw[e,hp,h2];rfl
theorem ZZ{N:Nat}{c:Cs}{key:List UInt8}{v:Int}{j:Nat}(hk:Go.cI.jY key v=true)(hG:Gd N c.s.D)(hj:c.s.jn=(j:Int))(hp:1<=c.s.pn)(hN:1+j+8<=N)(hs:seg c.s.D.now (1+j) 8=Jm key v):∃D,c.ld 1=(c.dev D,oa key v,0)/\Gd N D/\D.now=c.s.D.now/\D.q=c.s.D.q:=by
 have hr:=Fc hk;have hpl:(h_ true [key] [v]).length<=500:=uv (oa key v) hr;have ha:vq c.s.jn (1-1)=((1+j:Nat):Int):=by unfold vq;rw[hj];omega
 have hU:nD (h_ true [key] [v])=(oa key v,0):=Fb (n:=oa key v) hr;unfold Jm at hs;generalize h_ true [key] [v]=B at hpl hU hs;obtain⟨r1,r2,r3,r4⟩:=JV hG (a:=1+j) (b:=B) (by omega) hN hs;refine⟨(fF c.s.D ((1+j:Nat):Int)).1,?_,r2,r3,r4⟩;unfold Cs.ld;rw[if_neg (by omega),ha,r1];simp only[if_true];rw[hU];simp
theorem Fe{N:Nat}{c:Cs}{key:List UInt8}{v:Int}{j:Nat}(hk:Go.cI.jY key v=true)(hG:Gd N c.s.D)(hj:c.s.jn=(j:Int))(hp:1<=c.s.pn)(hN:1+j+8<=N)(hs:seg c.s.D.now (1+j) 8=Jm key v):∃D,bA.tl c 1=(c.dev D,oa key v,0)/\Gd N D/\D.now=c.s.D.now/\D.q=c.s.D.q:=by
 obtain⟨D,h1,h2,h3,h4⟩:=ZZ hk hG hj hp hN hs;refine⟨D,?_,h2,h3,h4⟩;have hl:bA.ld c 1=(c.dev D,oa key v,0):=h1;unfold ey.tl;rw[hl];simp[Fc hk]
theorem Hw{N:Nat}{c:Cs}{key:List UInt8}{v:Int}{j:Nat}(hk:Go.cI.jY key v=true)(hG:Gd N c.s.D)(hj:c.s.jn=(j:Int))(hp:1<=c.s.pn)(hN:1+j+8<=N)(hs:seg c.s.D.now (1+j) 8=Jm key v):∃D,bA.check c 1=(c.dev D,0)/\Gd N D/\D.now=c.s.D.now/\D.q=c.s.D.q:=by
 obtain⟨D,h1,h2,h3,h4⟩:=Fe hk hG hj hp hN hs;refine⟨D,?_,h2,h3,h4⟩;have hn:bA.ez 40 0 c 1 [] none ⟨[],-1⟩=(c.dev D,⟨[1],0⟩,0):=by
  unfold ey.ez;rw[if_neg (by simp),h1];simp[oa,Go.cI.tv,Go.cI.xd,Op.bytesLess]
 unfold ey.check;rw[if_neg (by omega),hn]
theorem Hx{N:Nat}{c:Cs}{key:List UInt8}{v:Int}{j:Nat}(hk:Go.cI.jY key v=true)(hG:Gd N c.s.D)(hj:c.s.jn=(j:Int))(hp:1<=c.s.pn)(hN:1+j+8<=N)(hs:seg c.s.D.now (1+j) 8=Jm key v):∃D,bA.pages c 1=(c.dev D,[1],0)/\Gd N D/\D.now=c.s.D.now/\D.q=c.s.D.q:=by
 obtain⟨D,h1,h2,h3,h4⟩:=Fe hk hG hj hp hN hs;refine⟨D,?_,h2,h3,h4⟩;unfold ey.pages;rw[if_neg (by omega)];unfold ey.fK;rw[h1];simp[oa]
theorem KV{N:Nat}{c:Cs}{key:List UInt8}{v:Int}{j:Nat}(hk:Go.cI.jY key v=true)(hG:Gd N c.s.D)(hj:c.s.jn=(j:Int))(hp:1<=c.s.pn)(hN:1+j+8<=N)(hs:seg c.s.D.now (1+j) 8=Jm key v):∃D,bA.scan c 1 [] 65536=(c.dev D,[(key,v)],0)/\Gd N D/\D.now=c.s.D.now/\D.q=c.s.D.q:=by
 obtain⟨D,h1,h2,h3,h4⟩:=Fe hk hG hj hp hN hs;refine⟨D,?_,h2,h3,h4⟩;unfold ey.scan;rw[if_neg (by omega)];unfold ey.eV;rw[h1];simp[oa,Go.cI.mC,Op.bytesLess]
end Go.aW
namespace Go.aW
open Go.Av
theorem KL{N:Nat}{D:aU}(h:Gd N D){a m:Nat}{L:List cU}(hL:L.length=m+1)(vt:∀s∈L,s.length=64)(ha:1+a+m+1<=N):(aK (fP 1 L a) D).2=0/\(aK (fP 1 L a) D).1.flush.2=0/\Gd N (aK (fP 1 L a) D).1.flush.1/\(aK (fP 1 L a) D).1.flush.1.q=[]/\seg (aK (fP 1 L a) D).1.flush.1.now (1+a) (m+1)=L/\∀b n,b+n<=1+a\/1+a+m+1<=b->seg (aK (fP 1 L a) D).1.flush.1.now b n=seg D.now b n:=by
 have pR:(L.take (L.length-1)++[Go.Av.dK []]).length=m+1:=by simp;omega
 obtain⟨w1,w2,w3,w4,w5⟩:=h.write (a:=1+a) (l:=L.take (L.length-1)++[Go.Av.dK []]) (by omega) (by
  intro s hs;rcases List.mem_append.1 hs with hs|hs
  ·exact vt s (List.mem_of_mem_take hs)
  ·simp at hs;subst hs;rfl)
 have e1:((1:Int)+(a:Int))=((1+a:Nat):Int):=by omega
 obtain⟨f1,f2,f3,f4,f5⟩:=w2.flush;have agE:(L.getD (L.length-1) []).length=64:=by
  rw[List.getD_eq_getElem?_getD,List.getElem?_eq_getElem (by omega)];exact vt _ (List.getElem_mem _)
 have e2:((1:Int)+((a:Int)+((L.length-1:Nat):Int)))=((1+a+m:Nat):Int):=by omega
 obtain⟨v1,v2,v3,v4,v5⟩:=f2.write (a:=1+a+m) (l:=[L.getD (L.length-1) []]) (by simp;omega) (by intro s hs;simp at hs;subst hs;exact agE);have D7:aK (fP 1 L a) D=((D.write ((1+a:Nat):Int) (L.take (L.length-1)++[Go.Av.dK []])).1.flush.1.write ((1+a+m:Nat):Int) [L.getD (L.length-1) []]):=by
  unfold fP;simp only[aK];rw[e1,e2,if_pos w1,if_pos f1,if_pos v1,<-v1]
 rw[D7];obtain⟨u1,u2,u3,u4,u5⟩:=v2.flush;have hN:=h.nl;have G6:[L.getD (L.length-1) []].length=1:=rfl;refine⟨v1,u1,u2,u5,?_,fun b n hb=>?_⟩
 ·rw[u3,v3,f3,w3];have s1:=fe (L:=ov D.now (1+a) (L.take (L.length-1)++[Go.Av.dK []])) (a:=1+a+m) (l:=[L.getD (L.length-1) []]) (by rw[lX (by omega)];simp;omega);rw[G6]at s1;rw[lC,s1,bG (by rw[lX (by omega)];simp;omega) (.inl (by omega))];have s2:=fe (L:=D.now) (a:=1+a) (l:=L.take (L.length-1)++[Go.Av.dK []]) (by omega);rw[pR,lC]at s2;have hm:(L.take (L.length-1)).length=m:=by simp;omega
  have s3:=congrArg (List.take m) s2;rw[List.take_left' (Pr (by rw[lX (by omega)];omega)),List.take_left' hm]at s3;rw[s3];have hd:L=L.take (L.length-1)++[L.getD (L.length-1) []]:=by
   have:L.getD (L.length-1) []=L[L.length-1]'(by omega):=by rw[List.getD_eq_getElem?_getD,List.getElem?_eq_getElem (by omega)];rfl
   rw[this,<-List.take_succ_eq_append_getElem (by omega),List.take_of_length_le (by omega)]
  exact hd.symm
 ·rw[u3,v3,f3,w3,bG (by rw[lX (by omega)];simp;omega) (by rw[G6];omega),bG (by omega) (by rw[pR];omega)]
def lG:Mk:=⟨1,1,2⟩
def sO:Mk:=⟨2,2,5⟩
theorem o6(r c:Int):(eC r c).length=64:=by
 unfold eC;rw[fZ,List.length_append,vD];simp
theorem FM(n:Int)(aH:List u_)(h:∀p∈aH,p.2.length=64)(hl:aH.length<=10):∀s∈iO n aH,s.length=64:=by
 intro s hs;simp only[iO,List.mem_cons,List.mem_append,List.mem_map,List.mem_singleton,List.not_mem_nil,or_false]at hs;have h1:=o7 n (UInt8.ofNat aH.length) aH;rcases hs with rfl|⟨p,hp,rfl⟩|rfl
 ·show(iO.uC _).length=64;unfold iO.uC agF;simp;omega
 ·simp[h p hp]
 ·unfold iO.uC;simp[aY]
def BY:List cU:=[Go.Av.qg,dn lG,Go.Av.qg,Go.Av.qg,Go.Av.qg]
def kg:List cU:=[Go.Av.qg,dn lG]++iO 1 [(0,eC 1 1)]
def iW:List cU:=[dn sO,dn lG]++iO 1 [(0,eC 1 1)]
def KM:Jr:=⟨1,5,lG,2,5,2,false,[(0,eC 1 1)],1⟩
theorem agG:rD BY=(lG,true):=by kernel_rfl
theorem agH:rD kg=(lG,true):=by kernel_rfl
theorem agI:rD iW=(sO,true):=by kernel_rfl
theorem agJ{N:Nat}(hN:N=262\/N=462):(kU N BY 5 (iP 1 5 lG))=iP 1 5 lG:=by rcases hN with rfl|rfl<;>kernel_rfl
theorem agK{N:Nat}(hN:N=262\/N=462):(kU N kg 5 (iP 1 5 lG))={KM with cnt:=0}:=by rcases hN with rfl|rfl<;>kernel_rfl
theorem agL{N:Nat}(hN:N=262\/N=462):(kU N iW 5 (iP 1 5 sO))=iP 1 5 sO:=by rcases hN with rfl|rfl<;>kernel_rfl
theorem agM:T5 (eC 0 0)=((0,0),0):=by kernel_rfl
theorem agN:T5 (eC 1 1)=((1,1),0):=by kernel_rfl
end Go.aW
namespace Go.aW
def cw:eG:=⟨[104,116,116,112,58,47,47,104,47,98],[[120]],[],⟨[],[],200,[79,75],1⟩,[([65],[98])],5,6,0,0,0,[]⟩
end Go.aW
namespace Go.Av
open Go.Proofs Go.aW
theorem Mr:aB Tryz.prog 13 [.int 1] (Ms cw):=by
 have r6:IntKind.i64.wrap ((1:Int).tmod 6)=1:=by decide
 have r7:IntKind.i64.wrap (1+6)=7:=by decide
 have w7:IntKind.i64.wrap 7=7:=by decide
 have t7:(7:Int).tmod 6=1:=by decide
 have w98:IntKind.i64.wrap 98=98:=by decide
 have t1:(1:Int).tmod 2=1:=by decide
 have r8:IntKind.i64.wrap ((7:Int).tmod 6)=1:=by decide
 have r9:IntKind.i64.wrap (97+1)=98:=by decide
 have r10:IntKind.u8.wrap 98=98:=by decide
 have r14:IntKind.i64.wrap ((1:Int).tmod 2)=1:=by decide
 refine bN (xs:=[.int 1]) (r:= .p (Ms cw)) (aO:=⟨[],[],1⟩) ?_ ⟨_,rfl,.inl rfl⟩;refine QgQ (rs:=[_]) [] [] [] Tryz.func13 rfl (by simp[Tryz.ntmps13]) ?_;simp[-aD,r10,w7,t7,w98];rw[show(PC.sl [PC.sc (Value.int IntKind.u8 98)])=cy [98]from rfl];simp[-aD,t1,Tryz.results13];exact⟨[],by simp[cw]⟩
end Go.Av
namespace Go.aW
open Go.Av
def bt(b:List UInt8):Nat:=(b.length+63)/64
def bC(b:List UInt8):eG:={cw with order:=1,size:=b.length,sum:=tc 0 b,body:=mo (bt b)}
def fD:List UInt8:=cw.uri++10::cw.var
theorem BS(m:Nat)(hm:m<=60000):(mo m).length<=1/\∀e∈mo m,e.1=0/\e.2=(m:Int)/\1<=e.2:=by
 unfold mo;split
 ·simp
 ·refine⟨by simp,fun e he=>?_⟩;simp at he;subst he;exact⟨rfl,rfl,by simp only;omega⟩
theorem vw(b:List UInt8)(h:b.length<=1000000):(bC b).Ok:=by
 have hb:=BS (bt b) (by unfold bt;omega);refine⟨by simp[bC,cw],by simp[bC,cw],by simp[bC,cw],by simp[bC,cw],by simp[bC,cw],by simp[bC,cw],by simp[bC,cw,wO],by simp[bC,cw],by simp[bC,cw],by simp[bC,cw],?_,?_⟩
 ·show(mo (bt b)).length<=_;omega
 ·exact rK (by omega) b
theorem FD(b:List UInt8)(h:b.length<=1000000):V9 (bC b):=by
 have hb:=BS (bt b) (by unfold bt;omega);refine⟨by simp[bC,cw],by simp[bC,cw],by simp[bC,cw],by simp[bC,cw],by simp[bC],?_,rK (by omega) b,by simp[bC,cw],by simp[bC,cw],by simp[bC,cw],by simp[bC,cw],by simp[bC,cw],by simp[bC,cw],by simp[bC,cw],?_,?_⟩
 ·show 0<=(b.length:Int)/\(b.length:Int)<_;omega
 ·show(mo (bt b)).length<_;omega
 ·intro x hx;have:=hb.2 x hx;have hn:bt b<=60000:=by unfold bt;omega
  omega
theorem qm(b:List UInt8)(h:b.length<=1000000):(bC b).right=true:=by
 have h1:(bC b).wW=true:=by kernel_rfl
 have h2:(bC b).rL=true:=by kernel_rfl
 have h3:(bC b).yH=true:=by
  have e1:(bC b).asked=5:=rfl;have e2:(bC b).got=6:=rfl;have e3:(bC b).order=1:=rfl;have e4:(bC b).size=b.length:=rfl;unfold eG.yH yC;rw[e1,e2,e3,e4];simp;omega
 have h4:iY (bC b).body (bC b).size=true:=by
  show iY (mo (bt b)) (b.length:Int)=true;unfold mo bt;by_cases c:(b.length+63)/64=0
  ·rw[if_pos c];have h0:(b.length:Int)<1:=by omega
   simp[iY,nV,Ky,h0]
  ·rw[if_neg c];have h0:¬(b.length:Int)<1:=by omega
   simp[iY,tq,yC,nV,Ky,h0];omega
 unfold eG.right;rw[h1,h2,h3,h4];rfl
theorem KW(b:List UInt8):(bC b).pack.length=66+8*(mo (bt b)).length:=by
 have hl:((bC b).body.flatMap qo).length=8*(mo (bt b)).length:=by
  show((mo (bt b)).flatMap qo).length=_;unfold mo;split<;>simp[qo,aY]
 have h1:(js (bC b).uri).length=12:=by kernel_rfl
 have h2:(js (bC b).var).length=2:=by kernel_rfl
 have h3:(js (bC b).st.r).length=4:=by kernel_rfl
 have h4:(a_ (bC b).names).length=3:=by kernel_rfl
 have h5:((bC b).fields.flatMap rM).length=6:=by kernel_rfl
 rw[FR];simp only[List.length_append,aY,h1,h2,h3,h4,h5,hl];clear h1 h2 h3 h4 h5 hl;omega
theorem o5(b:List UInt8)(h:b.length<=1000000):(bC b).pack.length=66\/(bC b).pack.length=74:=by
 have hb:=BS (bt b) (by unfold bt;omega);rw[KW];omega
theorem Pv(b:List UInt8)(h:b.length<=1000000):(bC b).wP=((bC b).pack,0):=by
 have:=o5 b h;unfold eG.wP;rw[if_pos (qm b h),if_neg (by omega)]
theorem KX(b:List UInt8)(h:b.length<=1000000):(jI (bC b)).length=2:=by
 have:=o5 b h;unfold jI;rw[eI,fZ,List.length_append,aY];omega
structure eU(N r:Nat)(b:List UInt8)(hd:cU)(all:List cU)(D:aU):Prop where
 gd:Gd N D
 q:D.q=[]
 head:seg D.now 0 1=[hd]
 D9:seg D.now 1 all.length=all
 aG:seg D.now (1+all.length) 8=Jm fD ((bt b:Int)*256+2)
 body:∃z,(seg D.now r (bt b)).flatten=b++List.replicate z 0
 rc:seg D.now (r+bt b) 2=jI (bC b)
theorem eU.same{N r:Nat}{b:List UInt8}{hd:cU}{all:List cU}{D D':aU}(h:eU N r b hd all D)(hG:Gd N D')(hn:D'.now=D.now)(hq:D'.q=D.q):eU N r b hd all D':=⟨hG,hq.trans h.q,by rw[hn];exact h.head,by rw[hn];exact h.D9,by rw[hn];exact h.aG,by rw[hn];exact h.body,by rw[hn];exact h.rc⟩
def nT(b:List UInt8):Kn:=⟨fD,1,(bt b:Int)*256+2,mo (bt b)⟩
theorem FE(b:List UInt8):(nT b).dD=((bt b:Int),2):=by
 unfold Kn.dD nT;simp only;congr 1<;>omega
theorem D5{N r:Nat}{b:List UInt8}{hd:cU}{all:List cU}{s:St}(h:eU N r b hd all s.D)(hb:b.length<=1000000)(hl:cG s.jn s.pn=(r:Int))(hN:r+bt b+2<=N):∃D,s.read (fun _=>(bC b,0)) ((bt b:Int),2)=(s.dev D,bC b,0)/\eU N r b hd all D/\z7 (s.D.read (cG s.jn s.pn+(bt b:Int)) 2).2.1.flatten=(bC b).pack:=by
 have hp:=o5 b hb;obtain⟨r1,r2,r3,r4,r5⟩:=h.gd.read (a:=r+bt b) (n:=2) hN;obtain⟨q1,q2⟩:=JW (e:=bC b) (by omega) (fun _=>(bC b,0)) rfl;have ha:cG s.jn s.pn+(bt b:Int)=((r+bt b:Nat):Int):=by rw[hl];omega
 rw[show((2:Nat):Int)=2 from rfl]at r1 r2 r3 r5;refine⟨(s.D.read ((r+bt b:Nat):Int) 2).1,?_,h.same r2 r3 r5,?_⟩
 ·unfold St.read;simp only;rw[ha,r1];simp only;rw[h.rc,q1];simp
 ·rw[ha,r1];simp only;rw[h.rc,q2]
theorem VT(b:List UInt8):sY [nT b] fD=0/\DI [nT b] fD=true:=by
 have hc:Hz fD fD=0:=by kernel_rfl
 have h0:atC [nT b] fD 0=0:=hc;have hi:sY [nT b] fD=0:=by
  unfold sY;show yw _ 1 0 1=0;unfold yw;simp[h0,yw]
 refine⟨hi,?_⟩;unfold DI;rw[hi,h0];simp
theorem afF{N r:Nat}{b:List UInt8}{hd:cU}{all:List cU}{s:St}(h:eU N r b hd all s.D)(hb:b.length<=1000000)(hl:cG s.jn s.pn=(r:Int))(hN:r+bt b+2<=N)(hx:s.ix=[nT b]):∃D,s.get (fun _=>(bC b,0)) fD=(s.dev D,bC b,true,0)/\eU N r b hd all D:=by
 obtain⟨D,h1,h2,h3⟩:=D5 h hb hl hN;obtain⟨a1,a2⟩:=VT b;refine⟨D,?_,h2⟩;unfold St.get;rw[hx,a1,a2];simp only[if_true,List.getD_cons_zero];rw[FE,h1];simp
theorem VV{N r:Nat}{b:List UInt8}{hd:cU}{all:List cU}{s:St}(h:eU N r b hd all s.D)(hb:b.length<=1000000)(hl:cG s.jn s.pn=(r:Int))(hN:r+bt b+2<=N)(hx:s.ix=[nT b]):∃D,s.body (bC b)=(s.dev D,b,0)/\eU N r b hd all D:=by
 obtain⟨a1,a2⟩:=VT b;have hk:(bC b).uri++10::(bC b).var=fD:=rfl;have amM:(b.length:Int)<=uF (mo (bt b)):=by
  unfold mo bt;split
  ·simp[uF];exact List.eq_nil_of_length_eq_zero (by omega)
  ·simp[uF];omega
 have hok:s.Ao (bC b)=true:=by
  unfold St.Ao;rw[hk,hx,a1,a2];simp only[List.getD_cons_zero];have e1:(nT b).order=(bC b).order:=rfl;have e2:(nT b).body=(bC b).body:=rfl;have e3:(bC b).size=(b.length:Int):=rfl;have e4:(bC b).body=mo (bt b):=rfl;rw[e1,e2,e3,e4];simp[amM]
 obtain⟨z,hz⟩:=h.body;have mg:∃D,g_ (cG s.jn s.pn) (bC b).body s.D []=(D,b++List.replicate z 0,0)/\eU N r b hd all D:=by
  show∃D,g_ (cG s.jn s.pn) (mo (bt b)) s.D []=_/\_;by_cases c:bt b=0
  ·have h0:mo (bt b)=[]:=by unfold mo;rw[if_pos c]
   rw[h0];rw[c]at hz;refine⟨s.D,?_,h⟩;have h2:b=[]/\z=0:=by simpa[seg]using hz.symm
   simp[g_,h2]
  ·have h0:mo (bt b)=[(0,(bt b:Int))]:=by unfold mo;rw[if_neg c]
   rw[h0];obtain⟨r1,r2,r3,r4,r5⟩:=h.gd.read (a:=r) (n:=bt b) (by omega);refine⟨(s.D.read (r:Int) (bt b:Int)).1,?_,h.same r2 r3 r5⟩;simp only[g_];rw[hl,Int.add_zero,r1];simp[hz]
 obtain⟨D,h1,h2⟩:=mg;refine⟨D,?_,h2⟩;unfold St.body;rw[if_pos hok,h1];have e3:(bC b).size.toNat=b.length:=rfl;have e4:(bC b).sum=rO b:=rfl;rw[e3,e4];simp
end Go.aW
namespace Go.Av
open Go.RowKit
theorem Pz{eW:Nat}{st:AS}(o j d n s:Nat)(m:Option Nat)(ob od:Ob)(ys:List PC)(hlo:lk o st.tb.bx=some ob)(hj:ob.xs[j]?=some (.view d 0 n s m))(hod:¬o=d)(hl:lk d st.tb.bx=some od)(hsz:od.sz=s)(hs:0<s)(hx:n*s<=od.xs.length)(hc:od.xs.take (n*s)=ys.flatMap aV)(hy:ys.length=n)(hw':∀y∈ys,y.width=s)(ht:∀y∈ys,cF y=true):st.le eW ⟨st.sl,(⟨(st.tb.cE d).bx,st.tb.rw,st.tb.nx+1⟩:Tb).aQ o {ob with xs:=ob.xs.set j (.p (.sl ys))}⟩:=by
 rintro fr a w hf ⟨g,h0,h1,h2,h3,h4⟩;obtain⟨b,c,f1,frl,f0⟩:=h1.boxes o ob hlo;have xA:ob.xs≠[]:=fun hz=>by rw[hz]at hj;simp at hj
 have gH:0<c:=Nat.pos_of_ne_zero fun hz=>xA (f0 hz);obtain⟨cur,f2,f3,⟨tt,fz,f4,fo⟩,f5,f6,f7,f8,f9⟩:=frl gH;obtain⟨u,hu,hr⟩:=f8.get hj;obtain⟨g',k1,k2,k3⟩:=AP hl hsz hs hx hc hy hw' ht _ _ _ g w u h1 hr;have am2:lk o (⟨(st.tb.cE d).bx,st.tb.rw,st.tb.nx+1⟩:Tb).bx=some ob:=by
  simp only[Tb.cE,cD];rw[if_neg (by first|exact hod|exact fun h=>hod h.symm)];exact hlo
 have key:=k2.aQ (o':={ob with xs:=ob.xs.set j (.p (.sl ys))}) (cur':=cur) am2 (k1.ob _ _ f1) gH f4 rfl rfl rfl (by simpa using f7) (by
  simp only[List.length_set];exact pF j _ hu (f8.mono k1) k3) (by simpa using f9)
 have hw:w.setRow b cur=w:=setRow_self f4;rw[hw]at key;exact⟨g',h0.trans k1,key,fun t=>(h2 t).mono k1,h3,h4⟩
end Go.Av
namespace Go.Av
open Go.Proofs Go.aW
theorem Py(l:List (Int×Int)):(l.map gS).flatMap aV=(zb l).map AV.p:=by
 induction l with
 |nil=>rfl
 |cons x l ih=>rw[List.map_cons,List.flatMap_cons,ih];rfl
theorem Wa(w w1:Sm)(s2:St)(c:Int)(he:w.ended=false)(apI:0<=w1.s.ord/\w1.s.ord<=1000000000000)(ho2:0<=s2.ord/\s2.ord<=1000000000000)(Dy:aI Tryz.prog 59 [.obj 7 0,.p (cy w.rest)] ⟨gU 0 8 w,eR 8,19⟩ (.p (.int 0)) ⟨gU 0 19 w1,eR 19,30⟩)(vv:aI Tryz.prog 60 [.obj 6 0,.p (.int 1),.p (dY {w1.e with order:=w1.s.ord+1})] ⟨bF 0 7 w1.s,eR 7,17⟩ (.agg true [.p (.bool true),.p (.int c)]) ⟨bF 0 17 s2,eR 17,27⟩):aI Tryz.prog 15 [.obj 7 0] ⟨gU 0 8 w,eR 8,19⟩ (.agg true [.p (.bool true),.p (.int c)]) ⟨bF 0 19 {s2 with ord:=s2.ord+1},eR 19,29⟩:=by
 have w2:IntKind.i64.wrap (w1.s.ord+1)=w1.s.ord+1:=af (by omega) (by omega);have w3:IntKind.i64.wrap (s2.ord+1)=s2.ord+1:=af (by omega) (by omega);refine iA (rs:=[_,_]) [] [(7,[(3,.r 1),(7,.r 1),(8,.w [1])])] [(1,7)] Tryz.func15 rfl (by kernel_rfl) (by kernel_rfl) (by simp[Tryz.ntmps15]) rfl ?_;refine bS mixed (fun _:Unit=>True) (fun _=>[(0,.obj 7 0)]) (fun _=>⟨gU 0 8 w,eR 8,19⟩) ?_ (fun _ _=>?_)
 ·simp[gU,jQ,jD,bF,aC,ax,bZ,bT,bP,b_];exact aA (by simp)
 refine bS mixed (fun _:Unit=>True) (fun _=>[(0,.obj 7 0)]) (fun _=>⟨gU 0 8 w,eR 8,19⟩) ?_ (fun _ _=>?_)
 ·simp[gU,jQ,jD,bF,aC,ax,bZ,bT,bP,b_,he];exact aA (by simp)
 refine bS mixed (fun _:Unit=>True) (fun _=>[(0,.obj 7 0),(4,.p (.int 0))]) (fun _=>⟨gU 0 19 w1,eR 19,30⟩) ?_ (fun _ _=>?_)
 ·simp[gU,jQ,jD,bF,aC,ax,bZ,bT,bP,b_];refine az Dy (by simp) (by simp[ay,gU,jQ,jD,bF,aC,ax,bZ,bT,bP,b_]) (by simp[ay]) rfl ?_;simp[gU,jQ,jD,bF,aC,ax,bZ,bT,bP,b_];exact aA (by simp)
 refine oA (Pz 7 15 29 w1.e.body.length 2 none (jQ 6 29 w1) (jD w1.e.body) (w1.e.body.map gS) rfl rfl (by omega) rfl rfl (by omega) (by simp[jD]) (by rw[Py];exact List.take_of_length_le (by simp[jD])) (by simp) (by intro y hy;obtain⟨a,_,rfl⟩:=List.mem_map.1 hy;rfl) (by intro y hy;obtain⟨a,_,rfl⟩:=List.mem_map.1 hy;rfl)) ?_;refine ga mixed ?_;simp[gU,jQ,jD,bF,aC,ax,bZ,bT,bP,b_,Tb.aQ,Tb.cE,del,w2];refine ak [0,1,2,3,4,5,6,19,20,21,22,23,24,25,26,27,28] vv (by simp) (by simp) (by simp[ay,bF,aC,ax,bZ,bT,bP,b_]) (by simp[ay]) ?_;simp[-aD,bF,aC,ax,bZ,bT,bP,b_,w3,Tryz.results15];exact⟨[(19,31),(20,32),(21,33),(22,34),(23,35),(24,36),(25,37),(26,38),(27,39),(28,40)],by simp⟩
end Go.Av
