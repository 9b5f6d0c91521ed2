/- DiskShapes, part 13: what functions compute, and its plain law; no condition. -/
import Derived.Test.YtgkdpbambfgahaaGreatDoorWal
import Derived.RangeFuncBox
import Derived.RangeFuncLeaves
import Derived.RangeFuncNested
import Derived.RangeFuncBound
import Derived.RangeFuncCalls
import Derived.Shelf.Abstract
import Derived.Shelf.RegionOpen
import Derived.RegionIn
import Derived.WalkKit
import Derived.OwnWalkIn
import Derived.TacticsInMore
import Derived.LoopNIn
import Derived.LoopIn
import Derived.Recover
set_option linter.all false
set_option maxRecDepth 100000
set_option maxHeartbeats 64000000
namespace Go.Av
open Go.Proofs Go.Proofs.Tryz Go.aT
theorem SL(nx k:Nat)(hb:k<=4000000000000):aE prog 143 [.p .nil,.p (.int k)] ⟨[],[],nx⟩ (.view nx 0 0 1 none) ⟨[(nx,⟨5,1,[]⟩)],[],nx+1⟩:=by
 have w1:IntKind.i64.wrap (k:Int)=k:=aD;by_cases h0:k=0
 ·subst h0;refine fG (r:= .p .nil) (aM:=⟨[],[],nx⟩) (el:=5) (s:=1) ?_ trivial;refine ah (rs:=[_]) [22] [] [] func143 rfl ?_;have z:IntKind.i64.wrap 0=0:=aD;simp[results143,z];exact⟨[],by simp⟩
 ·have e0:0<k:=by omega
  have z:IntKind.i64.wrap 0=0:=aD;refine ah (rs:=[_]) [22] [] [] func143 rfl ?_;simp[results143,w1,z,e0];exact⟨by omega,by omega,[],by simp⟩
theorem Ec(nx:Nat)(L:List (List PC))(hw:∀l∈L,∀x∈l,x.width=1)(ht:∀l∈L,∀x∈l,cw x=true)(hb:(L.map List.length).sum<=1000000000000)(vV:L.length<=1000000000000):aE prog 57 [.p (.sl (L.map .sl))] ⟨[],[],nx⟩ (.view nx 0 (L.map List.length).sum 1 none) ⟨[(nx,⟨5,1,(L.flatten.flatMap ga).map .p⟩)],[],nx+1⟩:=by
 refine ah (rs:=[_]) [] [] [] func57 rfl ?_;simp;refine bg (fun k:Nat=>k<=L.length) (fun k=>[(0,.p (.sl (L.map .sl))),(2,.p .nil),(9,.p (.sl (L.map .sl))),(10,.p (.int L.length)),(3,.p (.int ((L.map List.length).take k).sum)),(11,.p (.int k))]) (fun k=>L.length-k) 0 (by simp) (ak (by simp)) ?_;intro k hk;by_cases c1:k<L.length
 ·have e1:decide ((k:Int)<L.length)=true:=by simp;omega
  have hs:((L.map List.length).take (k+1)).sum=((L.map List.length).take k).sum+L[k].length:=by
   rw[mM (by simpa using c1)];simp
  have Xr:=nI (L.map List.length) (k+1);have w1:IntKind.i64.wrap ((((L.map List.length).take k).sum:Int)+(L[k].length:Int))=(((L.map List.length).take (k+1)).sum:Int):=by rw[hs];push_cast;exact aD
  have w2:=jq k;have e2:decide ((((L.map List.length).take (k+1)).sum:Int)<0)=false:=by simp
  simp[c1,w1,w2];refine⟨k+1,by omega,by omega,ak ?_⟩;simp
 ·have e1:decide ((k:Int)<L.length)=false:=by simp;omega
  have hk':(L.map List.length).take k=L.map List.length:=fY (by simp;omega);simp[c1,hk'];refine aA (SL nx (L.map List.length).sum (by omega)) (by simp) trivial trivial rfl ?_;simp;refine aL (fun k:Nat=>k<=L.length) (fun k=>[(0,.p (.sl (L.map .sl))),(2,.p .nil),(25,.p (.sl (L.map .sl))),(26,.p (.int L.length)),(6,.view nx 0 ((L.map List.length).take k).sum 1 none),(27,.p (.int k))]) (fun k=>⟨[(nx,⟨5,1,((L.take k).flatten.flatMap ga).map .p⟩)],[],nx+1⟩) (fun k=>L.length-k) 0 (by simp) _ (AS.le_refl _ _) (ak (by simp)) ?_;clear hk c1 e1 hk' k;intro k hk;by_cases c1:k<L.length
  ·have e1:decide ((k:Int)<L.length)=true:=by simp;omega
   have hs:((L.map List.length).take (k+1)).sum=((L.map List.length).take k).sum+L[k].length:=by
    rw[mM (by simpa using c1)];simp
   have Xr:=nI (L.map List.length) (k+1);have w2:=jq k;have hwk:=hw L[k] (by simp);have oK:=ht L[k] (by simp);have hfl:(L.take (k+1)).flatten=(L.take k).flatten++L[k]:=by rw[mM c1];simp only[List.flatten_append,List.flatten_cons,List.flatten_nil,List.append_nil]
   have hlen:(((L.take k).flatten.flatMap ga).map AV.p).length=((L.map List.length).take k).sum:=by
    have hww:∀x∈(L.take k).flatten,x.width=1:=fun x hx=>by
     obtain⟨l,hl,hx⟩:=List.mem_flatten.1 hx;exact hw l (jH hl) x hx
    have:=oe hww;simp only[List.length_map,this,List.length_flatten,List.map_take,Nat.mul_one]
   have Xt:List.take ((L.map List.length).take k).sum (((L.take k).flatten.flatMap ga).map AV.p)=((L.take k).flatten.flatMap ga).map AV.p:=fY (by omega);simp[c1,w2];refine⟨by simpa using Nat.le_of_eq hlen.symm,hwk,oK,by omega,by omega,k+1,by omega,by omega,aB [(nx,nx+1)] ?_⟩;rw[hfl,hs,Xt];simp
  ·have e1:decide ((k:Int)<L.length)=false:=by simp;omega
   have hkL:k=L.length:=by omega
   subst hkL;have hk':(L.map List.length).take L.length=L.map List.length:=fY (by simp);simp[results57,hk'];exact⟨[],by simp⟩
theorem Kl(L:List (List PC))(hw:∀l∈L,∀x∈l,x.width=1)(ht:∀l∈L,∀x∈l,cw x=true)(hb:(L.map List.length).sum<=1000000000000)(vV:L.length<=1000000000000):aq prog 57 [.sl (L.map .sl)] (.sl L.flatten):=bI (xs:=[_]) (Ec 0 L hw ht hb vV) (Ed (e:=5) (by simp) (by simp[List.length_flatten]) (fun x h=>by obtain⟨l,h1,h2⟩:=List.mem_flatten.1 h;exact hw l h1 x h2) (fun x h=>by obtain⟨l,h1,h2⟩:=List.mem_flatten.1 h;exact ht l h1 x h2))
theorem Ip(L:List (List UInt8))(hb:L.flatten.length<=1000000000000)(vV:L.length<=1000000000000):aq prog 57 [.sl (L.map cy)] (cy L.flatten):=by
 have h:=Kl (L.map af) (fun l hl x hx=>by obtain⟨b,_,rfl⟩:=List.mem_map.1 hl;exact cF b x hx) (fun l hl x hx=>by obtain⟨b,_,rfl⟩:=List.mem_map.1 hl;exact gW b x hx) (by
  have e:((L.map af).map List.length).sum=L.flatten.length:=by
   rw[List.length_flatten,List.map_map];congr 1;refine List.map_congr_left fun b _=>by simp[af]
  omega) (by simpa using vV)
 have e:(L.map af).flatten=af L.flatten:=by simp[af,List.map_flatten];rfl
 rw[e,List.map_map]at h;exact h
end Go.Av
namespace Go.aT
def RO(a:Nat):Nat:=(a/16)^^^Go.Av.mb.getD (a%16) 0
def Np(c:Nat)(x:UInt8):Nat:=RO (RO (c^^^x.toNat))
def qq(c:Nat)(b:List UInt8):Nat:=b.foldl Np c
def uW(s:Nat)(b:List UInt8):Nat:=qq (s^^^4294967295) b^^^4294967295
end Go.aT
namespace Go.Av
open Go.Proofs Go.Proofs.Tryz Go.aT
theorem Cf{n:Nat}(h:n<4294967296):IntKind.u32.wrap (n:Int)=(n:Int):=by
 have e1:IntKind.u32.bits=32:=rfl;have e2:IntKind.u32.signed=false:=rfl;unfold IntKind.wrap;simp only[e1,e2,Bool.false_and,Bool.false_eq_true,if_false];omega
theorem DQ{a b:Nat}(ha:a<4294967296)(hb:b<4294967296):bits .xor .u32 (a:Int) (b:Int)=((a^^^b:Nat):Int):=by
 unfold bits;simp only[BitVec.ofInt_natCast,BitVec.toNat_xor,BitVec.toNat_ofNat];have e:IntKind.u32.bits=32:=rfl;rw[e,Nat.mod_eq_of_lt (by omega),Nat.mod_eq_of_lt (by omega)];exact Cf (Nat.xor_lt_two_pow (n:=32) (by omega) (by omega))
theorem ads{a:Nat}(ha:a<4294967296):bits .and .u32 (a:Int) 15=((a%16:Nat):Int):=by
 have h15:(15:Int)=((15:Nat):Int):=rfl;rw[h15];unfold bits;simp only[BitVec.ofInt_natCast,BitVec.toNat_and,BitVec.toNat_ofNat];have e:IntKind.u32.bits=32:=rfl;rw[e,Nat.mod_eq_of_lt (by omega),Nat.mod_eq_of_lt (by omega),Cf (Nat.lt_of_le_of_lt Nat.and_le_left ha)];have:=Nat.and_two_pow_sub_one_eq_mod a 4;rw[show(15:Nat)=2^4-1 by rfl,this]
theorem adt(a:Nat):(a:Int).fdiv (2^min 4 IntKind.u32.bits)=((a/16:Nat):Int):=by
 have e:min 4 IntKind.u32.bits=4:=rfl;rw[e];show Int.fdiv (a:Int) 16=_;rw[Int.fdiv_eq_ediv_of_nonneg _ (by omega)];omega
theorem HV(i:Nat):mb.getD i 0<4294967296:=by
 by_cases h:i<16
 ·have:∀i,i<16->mb.getD i 0<4294967296:=by decide
  exact this i h
 ·rw[pR,List.getElem?_eq_none (by simp[mb];omega)];simp
theorem Cg{a:Nat}(h:a<4294967296):RO a<4294967296:=Nat.xor_lt_two_pow (n:=32) (by omega) (HV _)
theorem RP{c:Nat}(h:c<4294967296)(x:UInt8):Np c x<4294967296:=Cg (Cg (Nat.xor_lt_two_pow (n:=32) (by omega) (by have:=x.toNat_lt;omega)))
theorem Ch{c:Nat}(h:c<4294967296)(b:List UInt8):qq c b<4294967296:=by
 induction b generalizing c with
 |nil=>exact h
 |cons x b ih=>exact ih (RP h x)
theorem tL{c:Nat}(h:c<4294967296)(b:List UInt8):uW c b<4294967296:=Nat.xor_lt_two_pow (n:=32) (Ch (Nat.xor_lt_two_pow (n:=32) (by omega) (by omega)) b) (by omega)
theorem Du(c:Nat)(a b:List UInt8):qq c (a++b)=qq (qq c a) b:=List.foldl_append
theorem JP(c:Nat)(a:List UInt8)(x:UInt8):qq c (a++[x])=Np (qq c a) x:=by rw[Du];rfl
theorem DR(a:Nat)(ha:a<4294967296):∃i q:Nat,i<16/\bits .and .u32 (a:Int) 15=(i:Int)/\(a:Int).fdiv (2^min 4 IntKind.u32.bits)=(q:Int)/\bits .xor .u32 (q:Int) ((mb[i]?.getD 0:Nat):Int)=((RO a:Nat):Int):=⟨a%16,a/16,Nat.mod_lt _ (by omega),ads ha,adt a,by
 have:=HV (a%16);rw[pR]at this;rw[DQ (by omega) this];rfl⟩
theorem cH(l:List UInt8)(j:Nat)(h:j<(af l).length):(af l)[j]=mG (l[j]'(by simpa[af]using h)):=by simp[af]
abbrev nj(n:Nat):PC:= .sc (.int .u32 n)
@[simp]theorem aad:ic prog 241=some (16,1,false):=by kernel_rfl
theorem Nq(s:Nat)(hs:s<4294967296)(L:List (List UInt8))(hL:L.length<=1000000000000)(hb:∀b∈L,b.length<=1000000000000):aq prog 58 [nj s,.sl (L.map cy)] (nj (uW s L.flatten)):=by
 have h0:s^^^4294967295<4294967296:=Nat.xor_lt_two_pow (n:=32) (by omega) (by omega);have x0:=DQ (a:=s) (b:=4294967295) hs (by omega);have x1:bits .xor .u32 4294967295 (s:Int)=((s^^^4294967295:Nat):Int):=by rw[Nat.xor_comm];exact DQ (a:=4294967295) (by omega) hs
 refine ai (ys:=[_]) [] [] [] func58 rfl ?_;have mx:IntKind.u32.max=4294967295:=rfl;have sg:IntKind.u32.signed=false:=rfl;simp[mx,sg,x1];refine bg (fun k:Nat=>k<=L.length) (fun k=>[(12,.p (.sl (L.map cy))),(13,.p (.int L.length)),(14,.p (.int k)),(5,.p (nj (qq (s^^^4294967295) (L.take k).flatten)))]) (fun k=>L.length-k) 0 (by simp) (ak (by simp[qq])) ?_;intro k hk;by_cases ck:k<L.length
 ·simp[ck];refine bg (fun j:Nat=>j<=L[k].length) (fun j=>[(12,.p (.sl (L.map cy))),(13,.p (.int L.length)),(14,.p (.int k)),(18,.p (cy L[k])),(19,.p (.int L[k].length)),(20,.p (.int j)),(5,.p (nj (qq (s^^^4294967295) ((L.take k).flatten++L[k].take j))))]) (fun j=>L[k].length-j) 0 (by simp) (ak (by simp)) ?_;intro j hj;have hbk:=hb _ (List.getElem_mem ck);by_cases cj:j<L[k].length
  ·have w1:=jq j;have hC:qq (s^^^4294967295) ((L.take k).flatten++L[k].take j)<4294967296:=Ch h0 _;have hts:qq (s^^^4294967295) ((L.take k).flatten++L[k].take (j+1))=Np (qq (s^^^4294967295) ((L.take k).flatten++L[k].take j)) L[k][j]:=by
    rw[iA cj,<-List.append_assoc,JP]
   generalize qq (s^^^4294967295) ((L.take k).flatten++L[k].take j)=C at*;have wx:IntKind.u32.wrap (L[k][j].toNat:Int)=(L[k][j].toNat:Int):=Cf (by have:=L[k][j].toNat_lt;omega);have hX:C^^^L[k][j].toNat<4294967296:=Nat.xor_lt_two_pow (n:=32) (by omega) (by have:=L[k][j].toNat_lt;omega);have xa:=DQ hC (b:=L[k][j].toNat) (by have:=L[k][j].toNat_lt;omega);obtain⟨i1,q1,l1,a1,s1,y1⟩:=DR _ hX;obtain⟨i2,q2,l2,a2,s2,y2⟩:=DR _ (Cg hX);simp[cj,w1,cH,wx,xa,a1,s1,y1,a2,s2,y2];exact⟨by omega,by omega,j+1,by omega,by omega,ak (by simp[hts,Np])⟩
  ·obtain rfl:j=L[k].length:=by omega
   have w1:=jq k;have hfl:(L.take (k+1)).flatten=(L.take k).flatten++L[k]:=by rw[iA ck];simp only[List.flatten_append,List.flatten_cons,List.flatten_nil,List.append_nil]
   simp[w1];exact⟨k+1,by omega,by omega,ak (by simp[hfl])⟩
 ·obtain rfl:k=L.length:=by omega
  have hC:qq (s^^^4294967295) L.flatten<4294967296:=Ch h0 _;have x2:bits .xor .u32 4294967295 (qq (s^^^4294967295) L.flatten:Int)=((uW s L.flatten:Nat):Int):=by
   have:=DQ (a:=4294967295) (by omega) hC;rw[Nat.xor_comm 4294967295 (qq _ _)]at this;exact this
  simp[mx,sg,x2,results58]
end Go.Av
namespace Go.aT
def zi(b:List UInt8):Nat:=uW 0 b
def four(n:Nat):List UInt8:=[UInt8.ofNat n,UInt8.ofNat (n/256),UInt8.ofNat (n/65536),UInt8.ofNat (n/16777216)]
def frame(b:List UInt8):List UInt8:=b++four (zi b)
def dY(b:List UInt8):List UInt8×Int:=if b.length<4 then([],11)else if b.drop (b.length-4)=four (zi (b.take (b.length-4)))then(b.take (b.length-4),0)else([],33)
theorem EM(n:Nat):(four n).length=4:=rfl
theorem gH(b:List UInt8):(frame b).length=b.length+4:=by simp[frame,four]
theorem sr(b:List UInt8):dY (frame b)=(b,0):=by
 unfold dY;rw[if_neg (by rw[gH];omega)];have e:(frame b).length-4=b.length:=by rw[gH];omega
 rw[e];have h1:(frame b).take b.length=b:=by simp[frame]
 have h2:(frame b).drop b.length=four (zi b):=by simp[frame]
 rw[h1,h2,if_pos rfl]
theorem SS{b x:List UInt8}(h:dY b=(x,0)):b=frame x:=by
 unfold dY at h;split at h
 ·cases h
 ·split at h
  ·rename_i h1 h2;injection h with h3 _;rw[<-h3];unfold frame;rw[<-h2,List.take_append_drop]
  ·cases h
end Go.aT
namespace Go.Av
open Go.Proofs Go.Proofs.Tryz Go.aT
theorem U'(L:List (List UInt8))(hL:L.length<=1000000000000)(hb:∀b∈L,b.length<=1000000000000):aq prog 69 [.sl (L.map cy)] (nj (zi L.flatten)):=by
 refine ai (ys:=[_]) [] [] [] func69 rfl ?_;simp;refine bS (Nq 0 (by omega) L hL hb) ?_;simp[results69,zi]
theorem Iz(n:Nat)(h:n<4294967296):aq prog 251 [nj n] (cy (four n)):=by
 have w8:∀m:Nat,IntKind.u8.wrap (m:Int)=((UInt8.ofNat m).toNat:Int):=SR;have s8:(n:Int).fdiv (2^min 8 IntKind.u32.bits)=((n/256:Nat):Int):=by
  show Int.fdiv (n:Int) 256=_;rw[Int.fdiv_eq_ediv_of_nonneg _ (by omega)];omega
 have s16:(n:Int).fdiv (2^min 16 IntKind.u32.bits)=((n/65536:Nat):Int):=by
  show Int.fdiv (n:Int) 65536=_;rw[Int.fdiv_eq_ediv_of_nonneg _ (by omega)];omega
 have s24:(n:Int).fdiv (2^min 24 IntKind.u32.bits)=((n/16777216:Nat):Int):=by
  show Int.fdiv (n:Int) 16777216=_;rw[Int.fdiv_eq_ediv_of_nonneg _ (by omega)];omega
 refine ai (ys:=[_]) [] [] [] func251 rfl ?_;have e:af (four n)=[mG (UInt8.ofNat n),mG (UInt8.ofNat (n/256)),mG (UInt8.ofNat (n/65536)),mG (UInt8.ofNat (n/16777216))]:=rfl;show aw _ _ _ _ (tP _ _ (Em [PC.sl (af (four n))]));rw[e];obtain⟨a,ha,s8⟩:∃a:Nat,n/256=a/\(n:Int).fdiv (2^min 8 IntKind.u32.bits)=(a:Int):=⟨_,rfl,s8⟩;obtain⟨b,hb,s16⟩:∃a:Nat,n/65536=a/\(n:Int).fdiv (2^min 16 IntKind.u32.bits)=(a:Int):=⟨_,rfl,s16⟩;obtain⟨c,hc,s24⟩:∃a:Nat,n/16777216=a/\(n:Int).fdiv (2^min 24 IntKind.u32.bits)=(a:Int):=⟨_,rfl,s24⟩;rw[ha,hb,hc];have v0:=w8 n;have v8:=w8 a;have v16:=w8 b;have v24:=w8 c;simp[s8,s16,s24,v0,v8,v16,v24,results251]
theorem E1(L:List (List UInt8)):((L.map af).map List.length).sum=L.flatten.length:=by
 rw[List.length_flatten,List.map_map];congr 1;refine List.map_congr_left fun b _=>by simp[af]
theorem afu(L:List (List UInt8)):(L.map af).flatten=af L.flatten:=by simp[af,List.map_flatten];rfl
@[reducible]def eG(b:List UInt8):Ob:=⟨5,1,(af b).map .p⟩
theorem Zo(nx:Nat)(L:List (List UInt8))(hb:L.flatten.length<=1000000000000)(vV:L.length<=1000000000000):aE prog 57 [.p (.sl (L.map cy))] ⟨[],[],nx⟩ (.view nx 0 L.flatten.length 1 none) ⟨[(nx,eG L.flatten)],[],nx+1⟩:=by
 have h:=Ec nx (L.map af) (fun l hl x hx=>by obtain⟨b,_,rfl⟩:=List.mem_map.1 hl;exact cF b x hx) (fun l hl x hx=>by obtain⟨b,_,rfl⟩:=List.mem_map.1 hl;exact gW b x hx) (by rw[E1];exact hb) (by simpa using vV);rw[E1,afu,gV,List.map_map]at h;exact h
theorem yQ(bx:List (Nat×Ob))(k id:Nat)(b:List UInt8)(h:lk id bx=some (eG b))(n:Nat)(hn:n=b.length):cQ bx (k+1) (.view id 0 n 1 none) (cy b):=by
 subst hn;refine⟨_,h,by omega,by simp[af],by simp[af],?_,?_,?_⟩
 ·rw[qW,gV];simp only[List.drop_zero,Nat.mul_one];exact fY (by simp[af])
 ·exact cF b
 ·exact gW b
theorem yP(L:List (List UInt8))(hL:L.flatten.length<=1000000000)(hL2:L.length<=1000000000):aq prog 178 [.sl (L.map cy)] (cy (frame L.flatten)):=by
 have hb:∀b∈L,b.length<=1000000000000:=fun b hb=>by
  have:b.length<=L.flatten.length:=(List.sublist_flatten_of_mem hb).length_le;omega
 have hs:zi L.flatten<4294967296:=tL (by omega) _;refine bI (xs:=[_]) (r:= .view 1 0 (frame L.flatten).length 1 none) (aM:=⟨[(1,eG (frame L.flatten))],[],2⟩) ?_ (yQ _ 3 1 _ (by simp[lk]) _ rfl);refine ah (rs:=[_]) [] [] [] func178 rfl ?_;simp;refine aA (Zo 0 L (by omega) (by omega)) (by simp) trivial trivial rfl ?_;simp;refine bS (U' L (by omega) hb) ?_;simp;refine bS (Iz _ hs) ?_;simp[results178];have f4:=EM (zi L.flatten);have hfl:(L.map List.length).sum=L.flatten.length:=List.length_flatten.symm;have ft:List.take L.flatten.length (List.map AV.p (af L.flatten))=List.map AV.p (af L.flatten):=fY (by rw[List.length_map];unfold af;rw[List.length_map];exact Nat.le_refl _);refine⟨cF _,gW _,by omega,by omega,[],?_⟩;rw[hfl,ft,gV,gH,f4];simp[frame,af]
theorem O'(a b:List (UInt8))(ha:a.length<=1000000000000)(hb:b.length<=1000000000000):aq prog 250 [.sl (a.map mG),.sl (b.map mG)] (.bool (decide (a=b))):=by
 refine ai (ys:=[.bool _]) [] [] [] func250 rfl ?_;by_cases c0:a.length=b.length
 ·have n0:((a.length:Int) !=(b.length:Int))=false:=by simp[c0]
  simp[n0];refine bg (fun k:Nat=>k<=a.length/\a.take k=b.take k) (fun k=>[(0,.p (.sl (a.map mG))),(1,.p (.sl (b.map mG))),(12,.p (.int a.length)),(13,.p (.int k))]) (fun k=>a.length-k) 0 (by simp) (ak (by simp)) ?_;rintro k ⟨h1,h2⟩;by_cases c1:k<a.length
  ·have c2:k<b.length:=by omega
   have w1:=jq k;by_cases c3:a[k]=b[k]
   ·have n3:((a[k].toNat:Int) !=(b[k].toNat:Int))=false:=by simp[c3]
    simp[c1,c2,w1,n3];refine⟨k+1,⟨by omega,?_⟩,by omega,ak (by simp)⟩;rw[iA c1,iA c2,h2,c3]
   ·have hne:a≠b:=fun h=>c3 (by subst h;rfl);have n4:¬a[k].toNat=b[k].toNat:=fun h=>c3 (UInt8.toNat_inj.1 h);have n3:((a[k].toNat:Int) !=(b[k].toNat:Int))=true:=by simp[bne];omega
    simp[c1,c2,n3,hne,results250]
  ·have he:a=b:=by
    have e:k=a.length:=by omega
    subst e;rw[List.take_length]at h2;rw[h2,c0,List.take_length]
   subst he;simp[c1,results250]
 ·have n0:((a.length:Int) !=(b.length:Int))=true:=by simp[bne];omega
  have hne:a≠b:=fun h=>c0 (by rw[h]);simp[n0,hne,results250]
theorem Cz(b:List UInt8)(hb:b.length<=1000000000):aq prog 158 [cy b] (.tp [cy (dY b).1,.int (dY b).2]):=by
 have w1:IntKind.i64.wrap ((b.length:Int)-4)=(b.length:Int)-4:=aD;refine ai (ys:=[_,_]) [] [] [] func158 rfl ?_;by_cases c1:b.length<4
 ·have e:dY b=([],11):=by unfold dY;rw[if_pos c1]
  have c2:(b.length:Int)-4<0:=by omega
  rw[e];simp[w1,c2,results158,af]
 ·have c2:¬(b.length:Int)-4<0:=by omega
  obtain⟨n,hn⟩:∃n,b.length=n+4:=⟨b.length-4,by omega⟩;have e4:b.length-4=n:=by omega
  have e5:(b.length:Int)-4=(n:Int):=by omega
  rw[e5]at w1 c2;have hS:=U' [b.take n] (by simp) (by simp;omega);have hs:zi [b.take n].flatten<4294967296:=tL (by omega) _;have hF:=Iz _ hs;have hE:=O' (b.drop n) (four (zi [b.take n].flatten)) (by simp;omega) (by rw[EM];omega);have hC:=j7 (b.take n) (by simp;omega);have ef:[b.take n].flatten=b.take n:=by simp
  rw[ef]at hS hs hF hE;unfold dY;rw[if_neg c1,e4];have tk:List.take n (af b)=af (b.take n):=by simp[af]
  have dk:List.drop n (af b)=af (b.drop n):=by simp[af]
  have bw:∀y∈af b,1=y.width:=fun y h=>(cF b y h).symm;simp[e5,w1,c2,tk,dk];refine⟨bw,by omega,bw,by omega,bJ hS ?_⟩;simp;refine bJ hF ?_;simp;refine bJ hE ?_;by_cases c3:b.drop n=four (zi (b.take n))
  ·simp[c3,tk];refine⟨bw,by omega,bZ hC (by simp) ?_⟩;simp[results158]
  ·simp[c3,results158,af]
end Go.Av
namespace Go.aT
def secs:Nat->List UInt8->List dh
 |0,_=>[]
 |k+1,b=>if b=[]then[]else(b.take 64++List.replicate (64-b.length) 0)::secs k (b.drop 64)
def bn(b:List UInt8):List dh:=secs b.length b
def iN(kind:Int)(b:List UInt8):List UInt8×Int:=if kind<1\/255<kind then([],2)else if 505<b.length then([],12)else(frame (UInt8.ofNat kind.toNat::UInt8.ofNat (b.length/256)::UInt8.ofNat b.length::(b++List.replicate (505-b.length) 0)),0)
def mU(b:List UInt8):Nat×List UInt8×Int:=if(dY b).2≠0\/b.length≠512 then(0,[],33)else
 let x:=(dY b).1
 let k:=(x.getD 0 0).toNat
 let n:=(x.getD 1 0).toNat*256+(x.getD 2 0).toNat
 if k=0\/505<n\/((x.drop (3+n)).any fun c=>!(c==0))=true then(0,[],33)
 else(k,(x.drop 3).take n,0)
end Go.aT
namespace Go.Av
open Go.Proofs Go.Proofs.Tryz Go.aT
theorem Gy(L:List (List UInt8))(hb:L.flatten.length<=1000000000000)(vV:L.length<=1000000000000):aq prog 68 [.sl (L.map cy)] (cy L.flatten):=by
 refine ai (ys:=[_]) [] [] [] func68 rfl ?_;simp;refine bS (Ip L hb vV) ?_;simp[results68]
theorem adV(c:UInt8):aq prog 439 [mG c] (.bool (!(c==0))):=by
 refine ai (ys:=[_]) [] [] [] func439 rfl ?_;have e:(!(c==0))=((c.toNat:Int) !=0):=by
  by_cases h:c=0
  ·subst h;rfl
  ·have h1:(c==0)=false:=by simpa using h
   have h2:¬c.toNat=0:=fun h3=>h (UInt8.toNat_inj.1 h3);have h3:((c.toNat:Int)==0)=false:=by simp;omega
   simp[bne,h1,h3]
 rw[e];simp[results439]
theorem SQ(kind:Int)(hk:-9223372036854775808<=kind/\kind<=9223372036854775807)(L:List (List UInt8))(hL:L.flatten.length<=1000000000)(hL2:L.length<=1000000000):aq prog 437 [.int kind,.sl (L.map cy)] (.tp [cy (iN kind L.flatten).1,.int (iN kind L.flatten).2]):=by
 have hJ:=Gy L (by omega) (by omega);refine ai (ys:=[_,_]) [36] [] [] func437 rfl ?_;generalize L.flatten=b at*;simp;refine bS hJ ?_;unfold iN;by_cases c1:kind<1
 ·rw[if_pos (.inl c1)];simp[c1,results437,af]
 ·by_cases c2:255<kind
  ·rw[if_pos (.inr c2)];simp[c1,c2,results437,af]
  ·rw[if_neg (by omega)];obtain⟨K,rfl⟩:∃K:Nat,kind=K:=⟨kind.toNat,by omega⟩;by_cases c3:505<b.length
   ·have j_:(505:Int)<b.length:=by omega
    rw[if_pos c3];simp[c1,c2,j_,results437,af]
   ·have j_:¬(505:Int)<b.length:=by omega
    rw[if_neg c3];have wk:=SR K;have wl:=SR b.length;have wh:=SR (b.length/256);obtain⟨h,hh,sh⟩:∃a:Nat,b.length/256=a/\(b.length:Int).fdiv (2^min 8 IntKind.i64.bits)=(a:Int):=⟨_,rfl,by
     show Int.fdiv (b.length:Int) 256=_;rw[Int.fdiv_eq_ediv_of_nonneg _ (by omega)];omega⟩
    obtain⟨z,hz⟩:∃z:Nat,505-b.length=z:=⟨_,rfl⟩;have wz:IntKind.i64.wrap (505-(b.length:Int))=(z:Int):=by rw[aD];omega
    rw[hh]at wh⊢;rw[hz];have bz:af (List.replicate z 0)=List.replicate z (PC.sc (.int .u8 0)):=by simp[af]
    have hF:=yP [[UInt8.ofNat K,UInt8.ofNat h,UInt8.ofNat b.length],b,List.replicate z 0] (by simp;omega) (by simp);have ef:[[UInt8.ofNat K,UInt8.ofNat h,UInt8.ofNat b.length],b,List.replicate z 0].flatten=UInt8.ofNat K::UInt8.ofNat h::UInt8.ofNat b.length::(b++List.replicate z 0):=by simp
    rw[ef]at hF;have be:af [UInt8.ofNat K,UInt8.ofNat h,UInt8.ofNat b.length]=[mG (UInt8.ofNat K),mG (UInt8.ofNat h),mG (UInt8.ofNat b.length)]:=rfl;simp[c1,c2,j_,wk,wl,wh,sh,wz];refine⟨by omega,by unfold maxLen;omega,bZ hF (by simp[bz,be]) ?_⟩;simp[results437]
theorem Kt(b:List UInt8)(hb:b.length<=1000000000):aq prog 434 [cy b] (.tp [.int (mU b).1,cy (mU b).2.1,.int (mU b).2.2]):=by
 have hO:=Cz b hb;refine ai (ys:=[_,_,_]) [] [] [] func434 rfl ?_;by_cases c1:(dY b).2=0
 ·by_cases c2:b.length=512
  ·unfold mU;rw[if_neg (by simp[c1,c2])];obtain⟨x,hx⟩:∃x,dY b=(x,0):=⟨(dY b).1,by rw[<-c1]⟩;have AJ:=SS hx;have hxl:x.length=508:=by have:=gH x;rw[<-AJ]at this;omega
   rw[hx]at hO⊢;obtain⟨x0,x1,x2,r,rfl⟩:∃x0 x1 x2 r,x=x0::x1::x2::r:=by
    match x,hxl with
    |x0::x1::x2::r,_=>exact⟨x0,x1,x2,r,rfl⟩
   have hrl:r.length=505:=by simpa using hxl
   have bc:∀(a:UInt8) (l:List UInt8),af (a::l)=mG a::af l:=fun _ _=>rfl;have n2:((b.length:Int) !=512)=false:=by simp[c2]
   have ho:=Hs x1.toNat x2.toNat (by have:=x1.toNat_lt;omega) (by have:=x2.toNat_lt;omega);have w0:IntKind.i64.wrap (x0.toNat:Int)=(x0.toNat:Int):=bf (by omega) (by have:=x0.toNat_lt;omega);have w1:IntKind.i64.wrap (x1.toNat:Int)=(x1.toNat:Int):=bf (by omega) (by have:=x1.toNat_lt;omega);obtain⟨N,hN⟩:∃N:Nat,x1.toNat*256+x2.toNat=N:=⟨_,rfl⟩;simp only[pR,List.getElem?_cons_zero,List.getElem?_cons_succ,Option.getD_some,hN];rw[hN]at ho;simp;refine bS hO ?_;by_cases c3:x0.toNat=0
   ·have j_:((x0.toNat:Int)==0)=true:=by simp[c3]
    rw[if_pos (.inl c3)];have wz:IntKind.i64.wrap 0=0:=aD;simp[n2,ho,w1,c3,wz,results434,af]
   ·have j_:((x0.toNat:Int)==0)=false:=by simp;omega
    by_cases c4:505<N
    ·have kT:(505:Int)<N:=by omega
     rw[if_pos (.inr (.inl c4))];simp[n2,ho,w0,w1,j_,kT,results434,af]
    ·have kT:¬(505:Int)<N:=by omega
     have w3:IntKind.i64.wrap (3+(N:Int))=((3+N:Nat):Int):=by rw[aD];rfl
     have dk:List.drop N (af r)=af (r.drop N):=by simp[af]
     have tk:List.take N (af r)=af (r.take N):=by simp[af]
     have hA:=Xy 439 [] (fun c=>!(c==0)) (r.drop N) (by simp;omega) (fun x _=>adV x);have hC:=j7 (r.take N) (by simp;omega);have bw:∀y∈af r,1=y.width:=fun y h=>(cF r y h).symm;have d3:List.drop (3+N) (x0::x1::x2::r)=r.drop N:=by rw[show 3+N=N+1+1+1 by omega];rfl
     have e3:((3:Int)+N).toNat=N+1+1+1:=by omega
     have b3:(3:Int)+N<=r.length+1+1+1:=by omega
     have b4:(0:Int)<=3+N:=by omega
     rw[d3];simp[n2,bc,ho,w0,w1,w3,c3,j_,c4,kT,e3,dk];refine⟨bw,by omega,by omega,bZ hA (by simp[af]) ?_⟩;by_cases c5:((r.drop N).any fun c=>!(c==0))=true
     ·have c6:∃x,x∈r.drop N/\¬x=0:=by simpa using c5
      rw[c5];simp[c6,results434,af]
     ·have c6:¬∃x,x∈r.drop N/\¬x=0:=by simpa using c5
      have qS:((r.drop N).any fun c=>!(c==0))=false:=by simpa using c5
      rw[qS];simp[c6,e3,tk,w3,bc];refine⟨bw,by omega,by omega,bZ hC (by simp) ?_⟩;simp[results434]
  ·have dM:((b.length:Int) !=512)=true:=by simp[bne];omega
   have hU:mU b=(0,[],33):=by unfold mU;rw[if_pos (.inr c2)]
   obtain⟨x,hx⟩:∃x,dY b=(x,0):=⟨(dY b).1,by rw[<-c1]⟩;rw[hx]at hO;rw[hU];simp;refine bS hO ?_;simp[dM,results434,af]
 ·have iP:((dY b).2 !=0)=true:=by simpa using c1
  have hU:mU b=(0,[],33):=by unfold mU;rw[if_pos (.inl c1)]
  rw[hU];simp;refine bS hO ?_;simp[iP,results434,af]
end Go.Av
namespace Go.Proofs
open Go.RowKit Go.Shelf
attribute [local go_sem] Oper.semAt_some
def Tryz.piece(b off len k:Nat):Value:= .slice (some ⟨b,off+64*k,none⟩) (Nat.min 64 (len-64*k)) (Nat.min 64 (len-64*k))
theorem Tryz.Ef(n:Nat)(hn:1<=n)(l Bs os Bn on b off len cap:Nat)(hlen:len<=1000000000)(hcap:len<=cap)(J Jx:List Nat->World->Prop)(Kp:World->World->Prop)(hK:∀A B,Kp A B->(∀v,A.cell? ⟨Bs,os,none⟩=some v->B.cell? ⟨Bs,os,none⟩=some v)/\∀v,A.cell? ⟨Bn,on,none⟩=some v->B.cell? ⟨Bn,on,none⟩=some v)(hY:∀pre k W,J pre W->pre.length<(len+63)/64->YieldAt Fence.wide (n-1) Tryz.prog l #[Tryz.piece b off len k] W fun e W'=>
 (e= .returned (.bool true)/\J (pre++[k]) W'/\Kp W W')\/(e= .returned (.bool false)/\Jx (pre++[k]) W'))(W:World)(hJA:AbidesFrom W.heap.size J)(SM:W.cell? ⟨Bs,os,none⟩=some (.slice (some ⟨b,off,none⟩) len cap))(hBn:W.cell? ⟨Bn,on,none⟩=some (.int .i64 64))(h0:J [] W):CallsIn Fence.wide n Tryz.prog 304 #[.func (.yield l) #[] #[],.pointer (some ⟨Bs,os,none⟩),.pointer (some ⟨Bn,on,none⟩)] W fun e W'=>(∃v,e= .returned v)/\((∃ys,ys=List.range ((len+63)/64)/\J ys W')\/(∃pre,Jx pre W')):=by
 refine callsIn_of_wp Tryz.func304 rfl trivial ?_ rfl;simp only[Tryz.ntmps304,List.size_toArray,List.length_cons,List.length_nil,Nat.reduceAdd,Nat.reduceSub,Array.replicate_succ,Array.replicate_zero,List.push_toArray,List.append_toArray,List.nil_append,List.cons_append]
 gi_wp2
 gi_loopw [4] (fun i wr=>∃k:Nat,k<=(len+63)/64/\i= .int .i64 ((64*k:Nat):Int)/\J (List.range k) wr/\wr.cell? ⟨Bs,os,none⟩=some (.slice (some ⟨b,off,none⟩) len cap)/\wr.cell? ⟨Bn,on,none⟩=some (.int .i64 64)) (fun i _=>len-(intOf i).toNat)
 case atStart=>exact⟨0,Nat.zero_le _,rfl,h0,SM,hBn⟩
 case round=>
  obtain⟨k,hk,rfl,hJs,hs',hn'⟩:=hrel;by_cases hlt:64*k<len
  ·have hm:Tryz.prog.follows .mixedOrders=true:=by kernel_rfl
   have e1:(64*(k:Int)).toNat=64*k:=by omega
   have e3:64*k<=len:=by omega
   have e4:¬cap=64*k:=by omega
   have e5:64*k<=cap:=by omega
   have e6:(0:Int)<=64*(k:Int):=by omega
   have e7:64*(k:Int)<=(len:Int):=by omega
   gi_wp2
   gi_big_quiet_th_o (fail)
   have hg:wr.grownBy (wr.drewN nq) none:=⟨rfl,rfl,rfl,Nat.le_refl _,fun _ _ _=>rfl⟩;have hJ2:=hJA _ _ _ none hJs hg (fun r e=>by cases e);have hif:(if((len-64*k:Nat):Int)<64 then((len-64*k:Nat):Int)else 64)=((Nat.min 64 (len-64*k):Nat):Int):=by
    show _=((min 64 (len-64*k):Nat):Int);omega
   simp only[hif];obtain⟨fn,tmps,assign,body,hy,hR⟩:=hY _ k _ hJ2 (by simp;omega);have QH:Nat.min 64 (len-64*k)<=64:=Nat.min_le_left _ _;have hm2:Nat.min 64 (len-64*k)<=len-64*k:=Nat.min_le_right _ _;simp only[Tryz.piece]at hy;generalize Nat.min 64 (len-64*k)=m at QH hm2 hy hif;have vT:(wr.drewN nq).cell? ⟨Bs,os,none⟩=some (.slice (some ⟨b,off,none⟩) len cap):=hs';have hn2:(wr.drewN nq).cell? ⟨Bn,on,none⟩=some (.int .i64 64):=hn';generalize wr.drewN nq=wq at hJ2 hy hR vT hn2
   gi_wp2
   refine hR.mono ?_;rintro e W3 (⟨rfl,hJ3,hk3⟩|⟨rfl,akC⟩)
   ·have hs3:=(hK _ _ hk3).1 _ vT;have hn3:=(hK _ _ hk3).2 _ hn2;have ee:(64*(k:Int)+64)=((64*(k+1):Nat):Int):=by omega
    gi_wp2
    go_roundw
    case rel=>exact⟨k+1,by omega,by simp,by rw[List.range_succ];exact hJ3,hs3,hn3⟩
    case measure=>simp[intOf];omega
   ·gi_wp2
    refine bodyPost_ret (results_none rfl _ _ _) rfl ?_;exact⟨⟨_,rfl⟩,.inr ⟨_,akC⟩⟩
  ·gi_wp2
   go_end0
   obtain rfl:k=(len+63)/64:=by omega
   exact⟨⟨_,rfl⟩,.inl ⟨_,rfl,hJs⟩⟩
theorem Tryz.CA(n:Nat)(l Bs os Bn on c:Nat)(sa:Option Addr)(J:List Nat->World->Prop)(W:World)(SM:W.cell? ⟨Bs,os,none⟩=some (.slice sa 0 c))(h0:J [] W):CallsIn Fence.wide n Tryz.prog 304 #[.func (.yield l) #[] #[],.pointer (some ⟨Bs,os,none⟩),.pointer (some ⟨Bn,on,none⟩)] W fun e W'=>(∃v,e= .returned v)/\J [] W':=by
 refine callsIn_of_wp Tryz.func304 rfl trivial ?_ rfl;simp only[Tryz.ntmps304,List.size_toArray,List.length_cons,List.length_nil,Nat.reduceAdd,Nat.reduceSub,Array.replicate_succ,Array.replicate_zero,List.push_toArray,List.append_toArray,List.nil_append,List.cons_append]
 gi_wp2
 gi_loopw [4] (fun i wr=>i= .int .i64 0/\J [] wr/\wr.cell? ⟨Bs,os,none⟩=some (.slice sa 0 c)) (fun _ _=>0)
 case atStart=>exact⟨rfl,h0,SM⟩
 case round=>
  obtain⟨rfl,hJs,hs'⟩:=hrel
  gi_wp2
  go_end0
  exact⟨⟨_,rfl⟩,hJs⟩
end Go.Proofs
namespace Go.Av
open Go.RowKit
section
variable{P:Program}{tb:Tb}{kt:AV->Tb->Prop}
@[simp]theorem abI{l xs:List AV}{gf:FuncId}:wQ P l tb kt (.lJ (.func gf) xs)=qF P gf (l++xs) tb kt:=(rfl)
@[simp]theorem abJ{l xs:List AV}{gf:FuncId}:wQ P l tb kt (.mE (.func gf) xs)=qF P gf (xs++l) tb kt:=(rfl)
@[simp]theorem akm{f:Fn}{xs:List AV}:(AV.lJ f xs).nm= .lJ f xs:=(rfl)
@[simp]theorem akn{f:Fn}{xs:List AV}:(AV.mE f xs).nm= .mE f xs:=(rfl)
@[simp]theorem Zb{f:Fn}{xs:List AV}:(AV.lJ f xs).cR=some [.lJ f xs]:=(rfl)
@[simp]theorem Zc{f:Fn}{xs:List AV}:(AV.mE f xs).cR=some [.mE f xs]:=(rfl)
@[congr]theorem TU{gf:FuncId}{l l':List AV}(h:l=l'):qF P gf l tb kt=qF P gf l' tb kt:=by rw[h]
theorem Ek{gf:FuncId}{ys l:List AV}{ts ts':Tb}{r:AV}(h:aE P gf ys ts r ts')(hl:toAll l ys)(hb:ay tb.bx ts.bx)(hr:ay tb.rw ts.rw)(hn:ts.nx=tb.nx)(hk:kt r (tb.merge ts ts')):qF P gf l tb kt:=⟨ys,ts,r,ts',hl,h,hb,hr,hn,hk⟩
theorem dg{gf:FuncId}{ys l:List AV}{ts ts':Tb}{r:AV}(rn:List Nat)(h:aE P gf ys ts r ts')(hs:rn.length=ts.nx/\ts.nx<=ts'.nx/\rn.Nodup/\∀j∈rn,j<tb.nx)(hl:toAll l (AV.ren.dm (gN rn tb.nx) ys))(hb:ay tb.bx (eI (gN rn tb.nx) ts.bx))(hr:ay tb.rw (kC (gN rn tb.nx) ts.rw))(hk:kt (r.ren (gN rn tb.nx)) (tb.merge (ts.ren (gN rn tb.nx)) (ts'.ren (gN rn tb.nx)))):qF P gf l tb kt:=Ek (CY h rn tb.nx hs.1 hs.2.1 hs.2.2.1 hs.2.2.2) hl hb hr (by show gN rn tb.nx ts.nx=tb.nx;rw[o_ _ _ _ (by omega)];omega) hk
end
section
variable{P:Program}
def Sem(P:Program)(cx:Cx)(c:Code)(st:AS)(Q:Exit->AS->Prop):Prop:=∀fr:Fr,rW fr cx.fC->codeOk cx.cls cx.ot fr.n c=true->∀a w,iq fr st a w->c.wp P (Post fr Q) a w
theorem iH{cx:Cx}{c:Code}{st:AS}{Q:Exit->AS->Prop}(hm:P.follows .mixedOrders=true)(h:aw P cx c st Q):Sem P cx c st Q:=fun _ hfr hk a w hs=>gE hm hfr c st Q hk h a w hs
theorem bM{α:Type}{cx:Cx}{x y:Code}{st:AS}{Q:Exit->AS->Prop}(hm:P.follows .mixedOrders=true)(C:α->Prop)(S:α->List (Nat×AV))(T:α->Tb)(h1:aw P cx x st (rX cx C S T (fun _=>0) 1 Q))(h2:∀a,C a->Sem P cx y (Km (S a) (T a)) Q):Sem P cx (.seq x y) st Q:=by
 intro fr hfr hk a w hs;simp only[codeOk,Bool.and_eq_true]at hk;refine wp_seq (wp_mono (gE hm hfr x st _ hk.1 h1 a w hs) ?_);rintro e a' w' ⟨st',hq,hs'⟩;cases e with
 |normal=>
  obtain⟨b,hb,_,rn,k1,k2⟩:=hq;exact h2 b hb fr hfr hk.2 a' w' (kM rn k1 k2 fr a' w' hfr hs')
 |_=>exact⟨st',hq,hs'⟩
theorem qo{cx:Cx}{c:Code}{st ND:AS}{Q:Exit->AS->Prop}(hl:st.le cx.fC ND)(h:Sem P cx c ND Q):Sem P cx c st Q:=fun fr hfr hk a w hs=>h fr hfr hk a w (hl fr a w hfr hs)
theorem sC{f:FuncId}{fn:Func}{c:Code}{xs:List AV}{tb:Tb}{cx:Cx}{R:List AV->Tb->Prop}(hf:P.funcs[f]?=some fn)(hb:fn.body=some c)(hk:codeOk cx.cls cx.ot fn.ntmps c=true)(hx:xs.length<=fn.ntmps)(hcx:cx.fC=tb.nx)(h:Sem P cx c (me xs tb) (tP P fn R)){g:G}{w:World}{vs:List Value}{F:Nat->Prop}(hw:aQ w g.M F tb g w)(hvs:aJ g vs xs):Calls P f vs.toArray w fun e w'=>∃us zs g' aM,e= .returned (wI us)/\g.le g'/\aQ w g.M F aM g' w'/\aJ g' us zs/\R zs aM:=by
 have hlen:=hvs.length;refine calls_of_wp hf hb ?_
 let fr:Fr:=⟨w,g.M,F,g,fn.ntmps,[]⟩
 have hfr:rW fr cx.fC:=fun i hi=>hw.fresh i (by omega);have oE:iq fr (me xs tb) {tmps:=vs.toArray++Array.replicate (fn.ntmps-vs.toArray.size) undef,defers:=[]} w:=by
  refine⟨g,G.le_refl g,hw,?_,?_,rfl⟩
  ·intro t;have:=m9 (g:=g) xs vs 0 hvs t;simp only[Nat.sub_zero,Nat.zero_le,if_true]at this;show aX _ _ (jk xs 0 t);by_cases ht:t<vs.length
   ·have e:(vs.toArray++Array.replicate (fn.ntmps-vs.toArray.size) undef).getD t undef=(vs[t]?).getD undef:=by
     simp[Array.getElem?_append,ht]
    rw[e];exact this
   ·rw[o4 xs 0 t (by omega)];exact .any _
  ·simp[fr];omega
 refine wp_mono (h fr hfr hk _ w oE) ?_;rintro e a w' ⟨st,hq,hs⟩;obtain⟨g',h0,h1,h2,h3,h4⟩:=hs;have fin:vu P R st.tb (kO P st fn.results.toList)->a.defers=[]/\∃v,(results fn a.tmps).run P w'= .ok v w'/\∃us zs g' aM,Ending.returned v= .returned (wI us)/\g.le g'/\aQ w g.M F aM g' w'/\aJ g' us zs/\R zs aM:=by
  intro hres;unfold vu at hres;split at hres
  ·rename_i zs hz;obtain⟨us,h5,h6⟩:=ur h2 h1 _ _ hz;exact⟨h4,_,oM h5,us,zs,g',st.tb,rfl,h0,h1,h6,hres⟩
  ·exact hres.elim
 cases e with
 |normal=>exact fin hq
 |ret=>exact fin hq
 |_=>exact hq.elim
theorem DV{f:FuncId}{fn:Func}{c:Code}{xs ys:List PC}{r:PC}(md:List Nat)(cls:List (Nat×List (Nat×Cls)))(lab:List (Nat×Nat))(hf:P.funcs[f]?=some fn)(hb:fn.body=some c)(hnm:(fn.name=="runtime.NumGoroutine")=false)(hk:codeOk cls [] fn.ntmps c=true)(hx:xs.length<=fn.ntmps)(hr:r=Bd ys)(h:Sem P ⟨md,cls,lab,0,[]⟩ c (me (xs.map .p) ⟨[],[],0⟩) (tP P fn (Em ys))):aq P f xs r:=by
 refine⟨⟨fn,hf,hnm,by rw[hb];rfl⟩,fun M w vs hH hvs=>?_⟩;have hw:aQ w M (fun _=>False) ⟨[],[],0⟩ ⟨M,fun _=>none,fun _=>none⟩ w:=by
  refine⟨hH,sA.refl _ _,fun _ _ _=>rfl,Mem.le_refl _,?_,?_,?_,?_,?_,?_⟩
  ·intro i o e;simp[lk]at e
  ·intro i el sz e;simp[lk]at e
  ·intro i j o p b c b' c' e;simp[lk]at e
  ·intro i j o p u v b e;simp[lk]at e
  ·intro i j o p b c v e;simp[lk]at e
  ·intro i _;exact⟨rfl,rfl⟩
 have:=sC (cx:=⟨md,cls,lab,0,[]⟩) (g:=⟨M,fun _=>none,fun _=>none⟩) (F:=fun _=>False) hf hb hk (by simpa using hx) rfl h hw (jZ hvs);refine this.mono ?_;rintro e w' ⟨us,zs,g',aM,rfl,hle,hS,hR,hz⟩;have Bb:=toAll_p hR hz;refine⟨_,g'.M,rfl,by rw[hr];exact Be Bb,hS.holds,hle.M,fun b hb=>hS.old b hb (fun h=>h),?_⟩;exact⟨hS.keep.os,hS.keep.tape,hS.keep.output,hS.keep.size,fun k hk=>hS.keep.block k hk (fun h=>h)⟩
theorem ji{f:FuncId}{fn:Func}{c:Code}{xs rs:List AV}{r:AV}{tb aM:Tb}(md:List Nat)(cls:List (Nat×List (Nat×Cls)))(lab:List (Nat×Nat))(hf:P.funcs[f]?=some fn)(hb:fn.body=some c)(hnm:(fn.name=="runtime.NumGoroutine")=false)(hk:codeOk cls [] fn.ntmps c=true)(hx:xs.length<=fn.ntmps)(hr:r=vX rs)(h:Sem P ⟨md,cls,lab,tb.nx,[]⟩ c (me xs tb) (tP P fn (DU tb.nx rs aM))):aE P f xs tb r aM:=by
 refine⟨⟨fn,hf,hnm,by rw[hb];rfl⟩,fun g w vs F hw hvs=>?_⟩;have:=sC (cx:=⟨md,cls,lab,tb.nx,[]⟩) hf hb hk hx rfl h hw hvs;refine this.mono ?_;rintro e w' ⟨us,zs,g',t,rfl,hle,hS,hR,rn,⟨h1,h2,h3,h4,h5,h6⟩,hto,oS⟩;refine⟨_,g'.ren (uM rn) aM.nx,rfl,G.kM hle (fC:=tb.nx) (fun i hi=>hw.fresh i (by omega)) h2 (fun i hi=>mH h1 hi),hS.ren h3 h4 h5 h6,?_⟩;rw[hr];exact ow (fI rs (fJ _ hR hto) oS)
end
def sP(ρ:Nat->Nat)(u v:Nat):Nat->Bool
 |0=>true
 |n+1=>(ρ (u+n)==v+n)&&sP ρ u v n
@[simp]theorem abO{ρ:Nat->Nat}{u v:Nat}:sP ρ u v 0=true:=(rfl)
@[simp]theorem Li{ρ:Nat->Nat}{u v n:Nat}:sP ρ u v (n+1)=((ρ (u+n)==v+n)&&sP ρ u v n):=(rfl)
theorem pE{ρ:Nat->Nat}{u v:Nat}:∀{n:Nat},sP ρ u v n=true->∀j,j<n->ρ (u+j)=v+j
 |0,_,i,h=>by omega
 |n+1,h,i,hi=>by
  simp only[Li,Bool.and_eq_true,beq_iff_eq]at h;rcases Nat.lt_succ_iff_lt_or_eq.1 hi with h1|h1
  ·exact pE h.2 i h1
  ·subst h1;exact h.1
structure GN(k w:Nat)(σ:Type) where
 B:Nat->Nat->σ->List (Nat×Ob)
 inn:∀b u s p,p∈B b u s->(b<=p.1/\p.1<b+k)\/(u<=p.1/\p.1<u+w)
 nd:∀b u s,b+k<=u\/u+w<=b->((B b u s).map (·.1)).Nodup
 ren:∀b u c v s ρ,(∀i,i<k->ρ (b+i)=c+i)->(∀j,j<w->ρ (u+j)=v+j)->eI ρ (B b u s)=B c v s
 fD:∀b u s m p,b+k<=m->u+w<=m->p∈B b u s->AV.fD.eM m p.2.xs=true
theorem wY{α:Type}{i:Nat}:∀{a b:List (Nat×α)},(∀p∈a,p.1≠i)->lk i (a++b)=lk i b
 |[],b,_=>rfl
 |(j,p)::a,b,h=>by
  simp only[List.cons_append,lk];rw[if_neg (fun e=>h (j,p) (by simp) e.symm)];exact wY fun q hq=>h q (by simp[hq])
theorem Ff{α:Type}{i:Nat}:∀{a:List (Nat×α)},(∀p∈a,p.1≠i)->del i a=a
 |[],_=>rfl
 |(j,p)::a,h=>by
  simp only[del];rw[if_neg (fun e=>h (j,p) (by simp) e.symm),Ff fun q hq=>h q (by simp[hq])]
theorem C4{α:Type}{i:Nat}:∀{a b:List (Nat×α)},del i (a++b)=del i a++del i b
 |[],b=>rfl
 |(j,p)::a,b=>by
  simp only[List.cons_append,del];split
  ·exact C4
  ·rw[List.cons_append,C4]
theorem zU{α:Type}:∀{a b l:List (Nat×α)},b_ (a++b) l=b_ a (b_ b l)
 |[],b,l=>rfl
 |(j,p)::a,b,l=>by simp only[List.cons_append,b_,zU]
theorem qM{α:Type}:∀{a:List (Nat×α)},b_ a []=[]
 |[]=>rfl
 |(j,p)::a=>by simp only[b_,qM,del]
theorem lM{α:Type}{i:Nat}{o:α}{l:List (Nat×α)}:∀{a:List (Nat×α)},(∀p∈a,p.1≠i)->b_ a ((i,o)::l)=(i,o)::b_ a l
 |[],_=>rfl
 |(j,p)::a,h=>by
  simp only[b_];rw[lM fun q hq=>h q (by simp[hq])];simp only[del];rw[if_neg (h (j,p) (by simp))]
theorem vR{α:Type}:∀{a c l:List (Nat×α)},(∀p∈c,p.1∈a.map (·.1))->b_ a (c++l)=b_ a l
 |a,[],l,_=>rfl
 |a,(i,o)::c,l,h=>by
  have h1:i∈a.map (·.1):=h (i,o) (by simp);have h2:∀p∈c,p.1∈a.map (·.1):=fun p hp=>h p (by simp[hp]);have key:∀{a m:List (Nat×α)},i∈a.map (·.1)->b_ a ((i,o)::m)=b_ a m:=by
   intro a
   induction a with
   |nil=>intro m h;cases h
   |cons p a ih=>
    obtain⟨j,q⟩:=p;intro m h;simp only[b_];by_cases hm:i∈a.map (·.1)
    ·rw[ih hm]
    ·have hij:i=j:=by
      rcases List.mem_cons.1 h with h|h
      ·exact h
      ·exact absurd h hm
     subst hij;rw[lM (fun p hp (e:p.1=i)=>hm (by rw[<-e];exact List.mem_map.2 ⟨p,hp,rfl⟩))];simp only[del,if_true]
  rw[List.cons_append,key h1,vR h2]
theorem Fg{α:Type}{bx:List (Nat×α)}:∀{a b:List (Nat×α)},ay bx (a++b)=(ay bx a/\ay bx b)
 |[],b=>by simp[ay]
 |(i,o)::a,b=>by simp only[List.cons_append,ay,Fg,and_assoc]
theorem xP{α:Type}{bx:List (Nat×α)}:∀{a:List (Nat×α)},(∀p∈a,lk p.1 bx=some p.2)->ay bx a
 |[],_=>trivial
 |(i,o)::a,h=>⟨h (i,o) (by simp),xP fun p hp=>h p (by simp[hp])⟩
theorem uI{α:Type}{bx:List (Nat×α)}:∀{a:List (Nat×α)},ay bx a->∀p∈a,lk p.1 bx=some p.2
 |(i,o)::a,h,p,hp=>by
  rcases List.mem_cons.1 hp with rfl|hp
  ·exact h.1
  ·exact uI h.2 p hp
theorem Fh{α:Type}:∀{a b:List (Nat×α)},(a.map (·.1)).Nodup->∀p∈a,lk p.1 (a++b)=some p.2
 |(i,o)::a,b,h,p,hp=>by
  have h:=List.nodup_cons.1 h;simp only[List.cons_append,lk];rcases List.mem_cons.1 hp with rfl|hp
  ·rw[if_pos rfl]
  ·rw[if_neg]
   ·exact Fh h.2 p hp
   ·intro e;exact h.1 (by rw[<-e];exact List.mem_map.2 ⟨p,hp,rfl⟩)
theorem BD{ρ:Nat->Nat}:∀{a:List (Nat×Ob)} {p:Nat×Ob},p∈a->(ρ p.1,({p.2 with xs:=AV.ren.dm ρ p.2.xs}:Ob))∈eI ρ a
 |(i,o)::a,p,hp=>by
  simp only[eI];rcases List.mem_cons.1 hp with rfl|hp
  ·simp
  ·exact List.mem_cons_of_mem _ (BD hp)
theorem Fj{ρ:Nat->Nat}{m:Nat}{bx:List (Nat×Ob)}:∀{a b:List (Nat×Ob)},pV ρ m bx (a++b)=(pV ρ m bx a/\pV ρ m bx b)
 |[],b=>by simp[pV]
 |(i,o)::a,b=>by simp only[List.cons_append,pV,Fj,and_assoc]
theorem IZ{ρ:Nat->Nat}{m:Nat}{bx:List (Nat×Ob)}:∀{a:List (Nat×Ob)},(∀p∈a,p.1<m/\AV.fD.eM m p.2.xs=true/\lk (ρ p.1) bx=some {p.2 with xs:=AV.ren.dm ρ p.2.xs})->pV ρ m bx a
 |[],_=>trivial
 |(i,o)::a,h=>by
  obtain⟨h1,h2,h3⟩:=h (i,o) (by simp);refine⟨h1,h2,?_,IZ fun p hp=>h p (by simp[hp])⟩;simp only at h3;rw[h3];exact⟨rfl,rfl,List.prefix_refl _⟩
def ZE{α β:Type}(ρ:Nat->Nat)(a:List (Nat×α))(b:List (Nat×β)):Prop:=∀p∈a,∀q∈b,p.1=q.1\/ρ p.1≠ρ q.1
theorem zV{α:Type}{ρ:Nat->Nat}{i:Nat}:∀{a:List (Nat×α)},(∀p∈a,i=p.1\/ρ i≠ρ p.1)->kQ.uy ρ i a
 |[],_=>trivial
 |(j,o)::a,h=>⟨h (j,o) (by simp),zV fun p hp=>h p (by simp[hp])⟩
theorem BF{α:Type}{ρ:Nat->Nat}{i:Nat}:∀{a:List (Nat×α)},kQ.uy ρ i a->∀p∈a,i=p.1\/ρ i≠ρ p.1
 |(j,o)::a,h,p,hp=>by
  rcases List.mem_cons.1 hp with rfl|hp
  ·exact h.1
  ·exact BF h.2 p hp
theorem Fl{α:Type}{ρ:Nat->Nat}:∀{a b:List (Nat×α)},kQ ρ a->kQ ρ b->ZE ρ a b->kQ ρ (a++b)
 |[],b,_,h,_=>h
 |(i,o)::a,b,h1,h2,h3=>by
  refine⟨zV fun p hp=>?_,Fl h1.2 h2 fun p hp=>h3 p (by simp[hp])⟩;rcases iR.1 hp with hp|hp
  ·exact BF h1.1 p hp
  ·exact h3 (i,o) (by simp) p hp
theorem I0{α:Type}{ρ:Nat->Nat}:∀{a:List (Nat×α)},(∀p∈a,∀q∈a,p.1=q.1\/ρ p.1≠ρ q.1)->kQ ρ a
 |[],_=>trivial
 |(i,o)::a,h=>⟨zV fun p hp=>h (i,o) (by simp) p (by simp[hp]),I0 fun p hp q hq=>h p (by simp[hp]) q (by simp[hq])⟩
section
variable{k w:Nat}{σ:Type}{S:GN k w σ}{b u i m:Nat}{s s':σ}{ρ:Nat->Nat}
theorem GN.ne(h:(i<b\/b+k<=i)/\(i<u\/u+w<=i)):∀p∈S.B b u s,p.1≠i:=fun p hp e=>by
 have:=S.inn b u s p hp;omega
@[simp]theorem ahX{l:List (Nat×Ob)}(h:(i<b\/b+k<=i)/\(i<u\/u+w<=i)):lk i (S.B b u s++l)=lk i l:=wY (GN.ne h)
@[simp]theorem afI{l:List (Nat×Ob)}(h:(i<b\/b+k<=i)/\(i<u\/u+w<=i)):del i (S.B b u s++l)=S.B b u s++del i l:=by rw[C4,Ff (GN.ne h)]
@[simp]theorem LM{l v:List (Nat×Ob)}:b_ (S.B b u s++v) l=b_ (S.B b u s) (b_ v l):=zU
@[simp]theorem LN:b_ (S.B b u s) []=[]:=qM
@[simp]theorem Lj{l:List (Nat×Ob)}{o:Ob}(h:(i<b\/b+k<=i)/\(i<u\/u+w<=i)):b_ (S.B b u s) ((i,o)::l)=(i,o)::b_ (S.B b u s) l:=lM (GN.ne h)
@[simp]theorem Ll{l:List (Nat×Ob)}:b_ (S.B b u s) (S.B b u s++l)=b_ (S.B b u s) l:=vR fun p hp=>List.mem_map.2 ⟨p,hp,rfl⟩
@[simp]theorem I3:b_ (S.B b u s) (S.B b u s)=[]:=by
 have:=vR (a:=S.B b u s) (c:=S.B b u s) (l:=[]) fun p hp=>List.mem_map.2 ⟨p,hp,rfl⟩;rwa[List.append_nil,qM]at this
@[simp]theorem QB{bx l:List (Nat×Ob)}:ay bx (S.B b u s++l)=(ay bx (S.B b u s)/\ay bx l):=Fg
@[simp]theorem P7{l:List (Nat×Ob)}(h:b+k<=u\/u+w<=b):ay (S.B b u s++l) (S.B b u s)=True:=eq_true (xP (Fh (S.nd b u s h)))
@[simp]theorem P8{l:List (Nat×Ob)}{o:Ob}(h:(i<b\/b+k<=i)/\(i<u\/u+w<=i)):ay ((i,o)::l) (S.B b u s)=ay l (S.B b u s):=by
 have e:∀p∈S.B b u s,lk p.1 ((i,o)::l)=lk p.1 l:=fun p hp=>by
  simp only[lk];rw[if_neg (GN.ne h p hp)]
 exact propext ⟨fun h'=>xP fun p hp=>by rw[<-e p hp];exact uI h' p hp,fun h'=>xP fun p hp=>by rw[e p hp];exact uI h' p hp⟩
@[simp]theorem ZF(h1:sP ρ b (ρ b) k=true)(h2:sP ρ u (ρ u) w=true):eI ρ (S.B b u s)=S.B (ρ b) (ρ u) s:=S.ren b u (ρ b) (ρ u) s ρ (pE h1) (pE h2)
@[simp]theorem QC{bx l:List (Nat×Ob)}:pV ρ m bx (S.B b u s++l)=(pV ρ m bx (S.B b u s)/\pV ρ m bx l):=Fj
@[simp]theorem abP{bx:List (Nat×Ob)}(h1:sP ρ b (ρ b) k=true)(h2:sP ρ u (ρ u) w=true)(h3:b+k<=m/\u+w<=m)(h4:ay bx (S.B (ρ b) (ρ u) s)):pV ρ m bx (S.B b u s)=True:=eq_true (IZ fun p hp=>⟨by have:=S.inn b u s p hp;omega,S.fD b u s m p h3.1 h3.2 hp,by
 have h5:=BD (ρ:=ρ) hp;rw[S.ren b u (ρ b) (ρ u) s ρ (pE h1) (pE h2)]at h5;exact uI h4 _ h5⟩)
theorem C5(h1:sP ρ b (ρ b) k=true)(h2:sP ρ u (ρ u) w=true){p:Nat×Ob}(hp:p∈S.B b u s):(b<=p.1/\p.1<b+k/\ρ p.1=ρ b+(p.1-b))\/(u<=p.1/\p.1<u+w/\ρ p.1=ρ u+(p.1-u)):=by
 rcases S.inn b u s p hp with⟨h,h'⟩|⟨h,h'⟩
 ·refine .inl ⟨h,h',?_⟩;have:=pE h1 (p.1-b) (by omega);rwa[show b+(p.1-b)=p.1 by omega]at this
 ·refine .inr ⟨h,h',?_⟩;have:=pE h2 (p.1-u) (by omega);rwa[show u+(p.1-u)=p.1 by omega]at this
@[simp]theorem Lm(h1:sP ρ b (ρ b) k=true)(h2:sP ρ u (ρ u) w=true)(h3:ρ b+k<=ρ u\/ρ u+w<=ρ b):kQ ρ (S.B b u s)=True:=eq_true (I0 fun p hp q hq=>by
 have e1:=C5 h1 h2 hp;have e2:=C5 h1 h2 hq;omega)
def Ln(k w:Nat)(ρ:Nat->Nat)(b u:Nat):List (Nat×Ob)->Prop
 |[]=>True
 |(i,_)::l=>((ρ i<ρ b\/ρ b+k<=ρ i)/\(ρ i<ρ u\/ρ u+w<=ρ i))/\Ln k w ρ b u l
@[simp]theorem afJ:Ln k w ρ b u []=True:=(rfl)
@[simp]theorem abQ{o:Ob}{l:List (Nat×Ob)}:Ln k w ρ b u ((i,o)::l)=(((ρ i<ρ b\/ρ b+k<=ρ i)/\(ρ i<ρ u\/ρ u+w<=ρ i))/\Ln k w ρ b u l):=(rfl)
theorem Fm:∀{l:List (Nat×Ob)},Ln k w ρ b u l->∀p∈l,(ρ p.1<ρ b\/ρ b+k<=ρ p.1)/\(ρ p.1<ρ u\/ρ u+w<=ρ p.1)
 |(i,o)::l,h,p,hp=>by
  rcases List.mem_cons.1 hp with rfl|hp
  ·exact h.1
  ·exact Fm h.2 p hp
@[simp]theorem QD{l:List (Nat×Ob)}(h1:sP ρ b (ρ b) k=true)(h2:sP ρ u (ρ u) w=true)(h3:ρ b+k<=ρ u\/ρ u+w<=ρ b)(h4:Ln k w ρ b u l):kQ ρ (S.B b u s++l)=kQ ρ l:=by
 refine propext ⟨fun h=>?_,fun h=>Fl (of_eq_true (Lm h1 h2 h3)) h fun p hp q hq=>?_⟩
 ·have:∀(a:List (Nat×Ob)),kQ ρ (a++l)->kQ ρ l:=by
   intro a
   induction a with
   |nil=>exact fun h=>h
   |cons p a ih=>intro h;exact ih h.2
  exact this _ h
 ·have e1:=C5 h1 h2 hp;have e2:=Fm h4 q hq;omega
end
section
variable{P:Program}{tb:Tb}{kt:AV->Tb->Prop}
theorem mK{gf:FuncId}{ys l:List AV}{ts ts':Tb}{r:AV}(rn:List Nat)(h:aE P gf ys ts r ts')(hs:rn.length=ts.nx/\ts.nx<=ts'.nx/\rn.Nodup/\∀j∈rn,j<tb.nx)(hl:toAll l (AV.ren.dm (gN rn tb.nx) ys))(hb:ay tb.bx (eI (gN rn tb.nx) ts.bx))(hr:ay tb.rw (kC (gN rn tb.nx) ts.rw))(hk:kt (r.ren (gN rn tb.nx)) (tb.merge (ts.ren (gN rn tb.nx)) (ts'.ren (gN rn tb.nx)))):vG P gf [] l tb kt:=Pm (CY h rn tb.nx hs.1 hs.2.1 hs.2.2.1 hs.2.2.2) hl hb hr (by show gN rn tb.nx ts.nx=tb.nx;rw[o_ _ _ _ (by omega)];omega) hk
end
theorem BJ{P:Program}{f:FuncId}{xs:List AV}{tb tb2 aM:Tb}{r:AV}(h:aE P f xs tb r aM)(hb:ay tb2.bx tb.bx)(hr:ay tb2.rw tb.rw)(hn:tb2.nx=tb.nx):aE P f xs tb2 r aM:=⟨h.1,fun g w vs F hw hvs=>h.2 g w vs F (hw.sub (fun _ _ e=>eW _ hb e) (fun _ _ e=>eW _ hr e) (Nat.le_of_eq hn)) hvs⟩
def Idle(P:Program)(f:FuncId):Prop:=∀args w,CallsD P f args .returning w fun e u' w'=>(∃v,e= .returned v)/\u'= .returning/\w'=w
section
variable{P:Program}
theorem CJ{f:FuncId}{fn:Func}{x y:Code}{id:Nat}{mk df:Oper}{d:Tmp}{cl:FuncId}{caps:Array Operand}{xs rs:List AV}{r:AV}{tb aM:Tb}(md:List Nat)(cls:List (Nat×List (Nat×Cls)))(lab:List (Nat×Nat))(S:List (Nat×AV))(T:Tb)(hm:P.follows .mixedOrders=true)(hf:P.funcs[f]?=some fn)(hb:fn.body=some (.seq x (.seq (.region id #[mk,df] false) y)))(hnm:(fn.name=="runtime.NumGoroutine")=false)(hk:(codeOk cls [] fn.ntmps x&&codeOk cls [] fn.ntmps y)=true)(hx:xs.length<=fn.ntmps)(hr:r=vX rs)(hmk:mk.op= .makeFunc (.func cl) #[] caps)(hmg:mk.guard=none)(hmd:mk.dst=some d)(hdn:d<fn.ntmps)(hdf:df.op= .defer {callee:= .value (.tmp d),args:=#[],argTypes:=#[]})(hdg:df.guard=none)(hdd:df.dst=none)(hd:uf S d= .any)(iB:Idle P cl)(hcan:dP P cl)(h1:aw P ⟨md,cls,lab,tb.nx,[]⟩ x (me xs tb) (rX ⟨md,cls,lab,tb.nx,[]⟩ (fun _:Unit=>True) (fun _=>S) (fun _=>T) (fun _=>0) 1 (fun _ _=>False)))(h2:aw P ⟨md,cls,lab,tb.nx,[]⟩ y (Km S T) (tP P fn (DU tb.nx rs aM))):aE P f xs tb r aM:=by
 refine⟨⟨fn,hf,hnm,by rw[hb];rfl⟩,fun g w vs F hw hvs=>?_⟩;have hlen:=hvs.length;simp only[Bool.and_eq_true]at hk;refine calls_of_wp_defers hf hb ?_
 let fr:Fr:=⟨w,g.M,F,g,fn.ntmps,[]⟩
 have hfr:rW fr tb.nx:=fun i hi=>hw.fresh i (by omega);have oE:iq fr (me xs tb) {tmps:=vs.toArray++Array.replicate (fn.ntmps-vs.toArray.size) undef,defers:=[]} w:=by
  refine⟨g,G.le_refl g,hw,?_,?_,rfl⟩
  ·intro t;have:=m9 (g:=g) xs vs 0 hvs t;simp only[Nat.sub_zero,Nat.zero_le,if_true]at this;show aX _ _ (jk xs 0 t);by_cases ht:t<vs.length
   ·have e:(vs.toArray++Array.replicate (fn.ntmps-vs.toArray.size) undef).getD t undef=(vs[t]?).getD undef:=by
     simp[Array.getElem?_append,ht]
    rw[e];exact this
   ·rw[o4 xs 0 t (by omega)];exact .any _
  ·simp[fr];omega
 refine wp_seq (wp_mono (gE (fr:=fr) (cx:=⟨md,cls,lab,tb.nx,[]⟩) hm hfr x _ _ hk.1 h1 _ w oE) ?_);rintro e a1 w1 ⟨st,hq,hs⟩;cases e with
 |normal=>
  obtain⟨_,_,_,rn,k1,k2⟩:=hq;have hs1:=kM rn k1 k2 fr a1 w1 hfr hs;obtain⟨g1,s0,s1,s2,s3,s4⟩:=hs1;refine wp_seq (wp_region_list ?_);simp only[wpList];rw[if_pos (by simp[Region.wanted,hmg])];left;have ad4:(execOp a1.eval mk).run P w1= .ok (.value (.func (.func cl) #[] (caps.map a1.eval))) w1:=by
   simp[execOp,hmk,Instr.makeFunc]
  show Oper.wp P mk a1 w1 _ _;unfold Oper.wp;rw[ad4,Oper.upon_value];obtain⟨a2,Qp⟩:∃a2,a1.put mk.dst (.func (.func cl) #[] (caps.map a1.eval))=a2:=⟨_,rfl⟩;have hev:a2.eval (.tmp d)= .func (.func cl) #[] (caps.map a1.eval):=by
   rw[<-Qp,hmd];have:d<a1.tmps.size:=by rw[s3];exact hdn
   simp[Act.eval,Act.put,this]
  have q2:iq fr (Km S T) a2 w1:=by
   refine⟨g1,s0,s1,fun t=>?_,by rw[<-Qp,zh];exact s3,by rw[<-Qp,CK];exact s4⟩;rw[<-Qp,hmd];simp only[Act.put];by_cases e:t=d
   ·subst e;show aX g1 _ (uf S t);rw[hd];exact .any _
   ·have:=s2 t;simp only[Array.getD_eq_getD_getElem?]at this⊢;rw[Array.getElem?_setIfInBounds_ne (Ne.symm e)];exact this
  rw[Qp];show if _ then _ else _
  rw[if_pos (by simp[Region.wanted,hdg])];left;have Iw:(execOp a2.eval df).run P w1= .ok (.defer {target:= .fn (.func cl) (caps.map a1.eval),args:=#[]}) w1:=by
   simp[execOp,hdf,resolve,hev,Deferred.ofValue]
  rw[Iw,Oper.upon_defer,hdd]
  let fr2:Fr:=⟨w,g.M,F,g,fn.ntmps,[{target:= .fn (.func cl) (caps.map a1.eval),args:=#[]}]⟩
  have q3:iq fr2 (Km S T) ({a2 with defers:={target:= .fn (.func cl) (caps.map a1.eval),args:=#[]}::a2.defers}.put none undef) w1:=by
   obtain⟨g2,t0,t1,t2,t3,t4⟩:=q2;exact⟨g2,t0,t1,t2,t3,by show _::a2.defers=_;rw[t4]⟩
  show Exit.then _ _ Exit.normal _ _;refine wp_mono (gE (fr:=fr2) (cx:=⟨md,cls,lab,tb.nx,[]⟩) hm hfr y _ _ hk.2 h2 _ w1 q3) ?_;rintro e a w' ⟨st,hq,hs⟩;obtain⟨g',h0,h3,h4,h5,h6⟩:=hs;have fin:vu P (DU tb.nx rs aM) st.tb (kO P st fn.results.toList)->Leaves P fn a.tmps (fun e w'=>∃v g',e=Ending.returned v/\g.le g'/\aQ w g.M F aM g' w'/\aX g' v r) a.defers .returning w':=by
   intro hres;unfold vu at hres;split at hres
   ·rename_i zs hz;obtain⟨us,k5,k6⟩:=ur h4 h3 _ _ hz;rw[h6];refine leaves_cons (f:=cl) (args:=caps.map a1.eval) (by simp) (by simp[invoke,gj hcan]) ?_;refine(iB _ _).mono ?_;rintro e u' w2 ⟨⟨v,rfl⟩,rfl,rfl⟩;obtain⟨rn,⟨j1,j2,j3,j4,j5,j6⟩,hto,oS⟩:=hres;refine⟨_,oM k5,_,g'.ren (uM rn) aM.nx,rfl,G.kM h0 (fC:=tb.nx) (fun i hi=>hw.fresh i (by omega)) j2 (fun i hi=>mH j1 hi),h3.ren j3 j4 j5 j6,?_⟩;rw[hr];exact ow (fI rs (fJ _ k6 hto) oS)
   ·exact hres.elim
  cases e with
  |normal=>exact fin hq
  |ret=>exact fin hq
  |_=>exact hq.elim
 |_=>exact hq.elim
end
def Ct(o:Oper):Bool:=match o.op with
 | .defer _=>false
 |_=>true
theorem Kc{o:Oper}(h:Ct o=true):∀c,o.op≠ .defer c:=by
 intro c e;simp[Ct,e]at h
section
variable{P:Program}
theorem wG{ops:Array Oper}{Q:Exit->Act->World->Prop}{l0 n:Nat}(hQ:¬LetsOut Q):∀(l:List Oper),l.all Ct=true->∀a w,wpList P ops Q l a w->wpListIn (Fence.wide.inRound l0) n P ops Q l a w
 |[],_,a,w,h=>h
 |o::l,hd,a,w,h=>by
  simp only[List.all_cons,Bool.and_eq_true]at hd;have ih:∀a w,wpList P ops Q l a w->wpListIn (Fence.wide.inRound l0) n P ops Q l a w:=wG hQ l hd.2;unfold wpListIn;unfold wpList at h;split
  ·rename_i hw;rw[if_pos hw]at h;refine⟨fun _ _=>trivial,?_⟩;rw[Oper.semAt_eq _ _ _ (Kc hd.1)];have h:o.wp P a w (wpList P ops Q l) Q:=h.resolve_right fun k=>hQ k.2;unfold Oper.wp at h;generalize(execOp a.eval o).run P w=r at h;unfold Oper.upon at h;unfold Oper.uponIn;split at h
   ·exact ih _ _ h
   ·exact ih _ _ h
   ·exact ih _ _ h
   ·refine⟨(fun h=>by simp[Fence.wide]at h),CallsIn.inRound l0 (callsIn_wide.2 (h.mono ?_))⟩;rintro e w' k;cases e with
    |returned v=>exact ih _ _ k
    |panicked ch=>exact k
    |outgrown=>exact k
   ·refine⟨(fun h=>by simp[Fence.wide]at h),?_⟩;intro c cs _;obtain⟨v,w',r,s⟩:=h c cs;exact⟨v,w',ih _ _ r,stepsIn_wide.2 s⟩
   ·exact h
   ·exact h.elim
  ·rename_i hw;rw[if_neg hw]at h;exact⟨fun _ _=>trivial,ih _ _ h⟩
def vm:Code->Bool
 | .skip=>true
 | .region _ ops d=>!d&&ops.toList.all Ct
 | .seq x y=>vm x&&vm y
 | .block _ x=>vm x
 | .exit _=>true
 |_=>false
variable{fr:Fr}
theorem ru{cx:Cx}{l0 n:Nat}:∀(c:Code) (st:AS) (Q:Exit->AS->Prop),vm c=true->codeOk cx.cls cx.ot fr.n c=true->(∀st,¬Q .outgrown st)->aw P cx c st Q->∀a w,iq fr st a w->c.wpIn (Fence.wide.inRound l0) n P (Post fr Q) a w
 | .skip,st,Q,_,_,_,h,a,w,hs=>wpIn_skip ⟨st,h,hs⟩
 | .exit id,st,Q,_,_,_,h,a,w,hs=>wpIn_exit ⟨st,h,hs⟩
 | .region id ops d,st,Q,hc,hk,hQ,h,a,w,hs=>by
  simp only[codeOk,Bool.and_eq_true,Bool.or_eq_true,Bool.not_eq_true']at hk;simp only[vm,Bool.and_eq_true,Bool.not_eq_true']at hc;obtain⟨rfl,hc⟩:=hc;have hQ':¬LetsOut (Post fr Q):=fun⟨a,w,st,q,_⟩=>hQ st q;refine wpIn_region_list (wG hQ' _ hc a w ?_);simp only[aw]at h;unfold Gm at h;split at h
  ·obtain⟨ns,h⟩:=h;exact vn (Q:=Post fr Q) (fun st a w h1 h2=>⟨st,h1,h2⟩) ns _ st (by simpa using hk.1) h a w hs
  ·exact qx (Q:=Post fr Q) (fun st a w h1 h2=>⟨st,h1,h2⟩) _ st (by simpa using hk.1) h a w hs
 | .seq x y,st,Q,hc,hk,hQ,h,a,w,hs=>by
  simp only[codeOk,Bool.and_eq_true]at hk;simp only[vm,Bool.and_eq_true]at hc;simp only[aw]at h;refine wpIn_seq (wpIn_mono (ru x st _ hc.1 hk.1 (by intro st k;exact hQ st k) h a w hs) ?_);rintro e a' w' ⟨st',hq,hs'⟩;cases e with
  |normal=>exact ru y st' Q hc.2 hk.2 hQ hq a' w' hs'
  |_=>exact⟨st',hq,hs'⟩
 | .block id x,st,Q,hc,hk,hQ,h,a,w,hs=>by
  simp only[codeOk]at hk;simp only[vm]at hc;simp only[aw]at h;refine wpIn_block (wpIn_mono (ru x st _ hc hk (by intro st k;exact hQ st k) h a w hs) ?_);rintro e a' w' ⟨st',hq,hs'⟩;cases e with
  |exit j=>
   simp only[Exit.inBlock];simp only at hq;split
   ·rename_i e;rw[if_pos e]at hq;exact⟨st',hq,hs'⟩
   ·rename_i e;rw[if_neg e]at hq;exact⟨st',hq,hs'⟩
  |_=>exact⟨st',hq,hs'⟩
 | .cond ..,_,_,hc,_,_,_,_,_,_=>by simp[vm]at hc
 | .loop ..,_,_,hc,_,_,_,_,_,_=>by simp[vm]at hc
 | .ret,_,_,hc,_,_,_,_,_,_=>by simp[vm]at hc
 | .goto ..,_,_,hc,_,_,_,_,_,_=>by simp[vm]at hc
 | .label ..,_,_,hc,_,_,_,_,_,_=>by simp[vm]at hc
 | .rangeFunc ..,_,_,hc,_,_,_,_,_,_=>by simp[vm]at hc
theorem aQ.grown{w0:World}{M0:Mem}{F:Nat->Prop}{tb:Tb}{g:G}{W W':World}{row:Option Nat}(h:aQ w0 M0 F tb g W)(hg:W.grownBy W' row)(hr:∀r,row=some r->w0.heap.size<=r/\∃o:Obj,W.heap[r]?=some o/\o.isCells=false):aQ w0 M0 F tb g W':=by
 have hcell:∀{k:Nat} {o:Obj},W.heap[k]?=some o->o.isCells=true->W'.heap[k]?=some o:=fun hk hc=>(grownBy_keeps_cells hg (fun r e=>(hr r e).2) hk hc).trans hk;refine⟨⟨fun b o v e=>?_,h.holds.g⟩,⟨hg.os.trans h.keep.os,hg.tape.trans h.keep.tape,hg.output.trans h.keep.output,Nat.le_trans h.keep.size hg.size,fun k hk hf=>?_⟩,h.old,h.Dm,fun id o e=>?_,fun id el sz e=>?_,h.f_,h.ia,h.fj,h.fresh⟩
 ·have hc:=h.holds b o v e;obtain⟨ob,h1,h2⟩:=cells_of_cell hc;have:=hcell h1 h2;unfold World.cell? at hc⊢;simp only at h1 this hc⊢;rw[h1]at hc;rw[this];exact hc
 ·rw[<-h.keep.block k hk hf];refine hg.block k (Nat.lt_of_lt_of_le hk h.keep.size) ?_;intro e;have:=(hr k e.symm).1;omega
 ·obtain⟨b,c,h1,hr',h0⟩:=h.boxes id o e;refine⟨b,c,h1,fun hc=>?_,h0⟩;obtain⟨cur,h2,h3,⟨tt,fz,h4,fo⟩,h5⟩:=hr' hc;exact⟨cur,h2,h3,⟨tt,fz,hcell h4 rfl,fo⟩,h5⟩
 ·obtain⟨v,h1,h2⟩:=h.rows id el sz e;refine⟨v,h1,h2.imp (fun h=>h) ?_⟩;rintro⟨b,n,cap,cur,h3,h4,⟨tt,fz,h5,fo⟩,h6⟩;exact⟨b,n,cap,cur,h3,h4,⟨tt,fz,hcell h5 rfl,fo⟩,h6⟩
end
end Go.Av
