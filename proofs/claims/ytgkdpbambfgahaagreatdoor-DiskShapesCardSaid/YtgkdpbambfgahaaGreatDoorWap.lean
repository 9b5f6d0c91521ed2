/- DiskShapes, part 16: what functions compute, and its plain law; no condition. -/
import Derived.Test.YtgkdpbambfgahaaGreatDoorWao
import Derived.Lib.BytesEntry
import Derived.Lib.Bytealg
import Derived.Test.YtgkdpbambfgahaaGreatDoorProg
import Derived.Shelf.Lays
import Derived.Shelf.Strings.AsciiSet
import Derived.Shelf.Strings.IndexAnyAll
set_option linter.all false
set_option maxRecDepth 100000
set_option maxHeartbeats 64000000
namespace Go.aT
def LG(root count:Int):List UInt8:=83::(aC root 4++aC count 4)
def ey(root count:Int):dh:=frame (LG root count++List.replicate 51 0)
def UA(b:List UInt8):(Int×Int)×Int:=if(dY b).2=0/\(dY b).1.length=60/\(dY b).1.getD 0 0=83 then
 (if ey (cq (((dY b).1.drop 1).take 4)) (cq (((dY b).1.drop 5).take 4))=b then((cq (((dY b).1.drop 1).take 4),cq (((dY b).1.drop 5).take 4)),0)else((0,0),33))else((0,0),33)
theorem xI(r c:Int):(LG r c).length=9:=by simp[LG,aW]
end Go.aT
namespace Go.Av
open Go.Proofs Go.Proofs.Tryz Go.aT
abbrev hdP(root count:Int):PC:= .agg false [.int root,.int count]
theorem y9(root count:Int):aq prog 78 [hdP root count] (cy (ey root count)):=by
 have h4:=HX root;have Un:=HX count;have hc:=Ip [[83],aC root 4,aC count 4] (by simp[aW]) (by simp);have e1:[[83],aC root 4,aC count 4].flatten=LG root count:=by simp[LG]
 rw[e1]at hc;have hF:=yP [LG root count,List.replicate 51 0] (by simp[xI]) (by simp);have e2:[LG root count,List.replicate 51 0].flatten=LG root count++List.replicate 51 0:=by simp
 rw[e2]at hF;change aq prog 178 _ (cy (ey root count))at hF;have l9:(af (LG root count)).length=9:=by rw[show(af (LG root count)).length=(LG root count).length from by simp[af],xI]
 generalize ey root count=S at hF⊢;generalize hX:LG root count=X at hc hF l9;have w1:IntKind.i64.wrap 51=51:=aD;refine ai (ys:=[_]) [17] [] [] func78 rfl ?_;simp;refine bJ h4 ?_;simp;refine bJ Un ?_;simp;refine bJ hc ?_;have xl:X.length=9:=by rw[<-hX,xI]
 have er:List.replicate 51 (PC.sc (Value.int IntKind.u8 0))=af (List.replicate 51 0):=by simp[af]
 simp[xl,w1];refine⟨by unfold maxLen;omega,bZ hF rfl ?_⟩;simp[results78]
theorem Ol(b:List UInt8)(hb:b.length<=1000000000):aq prog 72 [cy b] (.tp [hdP (UA b).1.1 (UA b).1.2,.int (UA b).2]):=by
 have hO:=Cz b hb;have Us:b≠[]\/b=[]:=by cases b<;>simp
 obtain⟨R,hR⟩:∃R,UA b=R:=⟨_,rfl⟩;rw[hR];unfold UA at hR;generalize dY b=O at hO hR;obtain⟨x,e⟩:=O;simp only at hO hR;refine ai (ys:=[_,_]) [] [(4,[(7,.w []),(8,.s 1 [])]),(5,[(0,.r 1)])] [(1,1)] func72 rfl ?_;simp;refine bS hO ?_;by_cases c1:e=0
 ·by_cases c2:x.length=60
  ·have g0:x.getD 0 0=x[0]:=by rw[pR,kq (by omega)];rfl
   have q0:(af x)[0]?=some (mG x[0]):=by rw[kq (by simp[af];omega),cH]
   by_cases c3:x[0]=83
   ·have k1:List.drop 1 (List.take 5 (af x))=af ((x.drop 1).take 4):=by simp[af,List.drop_take]
    have k2:List.drop 5 (List.take 9 (af x))=af ((x.drop 5).take 4):=by simp[af,List.drop_take]
    have UW:=vg ((x.drop 1).take 4) (by simp;omega);have hn2:=vg ((x.drop 5).take 4) (by simp;omega);have hS:=y9 (cq ((x.drop 1).take 4)) (cq ((x.drop 5).take 4));rw[if_pos ⟨c1,c2,by rw[g0,c3]⟩]at hR;generalize cq ((x.drop 1).take 4)=r at UW hS hR;generalize cq ((x.drop 5).take 4)=c at hn2 hS hR;simp[c1,c2,c3,bne,k1,cH];rw[List.drop_one]at UW;refine⟨fun y h=>(cF _ y h).symm,bJ UW ?_⟩;simp[k2];refine⟨fun y h=>(cF _ y h).symm,by omega,bJ hn2 ?_⟩;simp;refine bJ hS ?_;by_cases c4:ey r c=b
    ·rw[if_pos c4]at hR;rw[<-hR];simp[c4,bne,results72]
    ·have kT:(ey r c==b)=false:=by simpa using c4
     rw[if_neg c4]at hR;rw[<-hR];simp[kT,bne,results72]
   ·have j_:((x[0].toNat:Int)==83)=false:=by
     have:¬x[0].toNat=83:=fun h3=>c3 (UInt8.toNat_inj.1 h3);simp;omega
    rw[if_neg (fun h=>c3 (by rw[<-g0];exact h.2.2))]at hR;rw[<-hR];simp[c1,c2,j_,bne,cH,results72]
  ·have dM:((x.length:Int)==60)=false:=by simp;omega
   rw[if_neg (fun h=>c2 h.2.1)]at hR;rw[<-hR];simp[c1,dM,bne,results72]
 ·have iP:(e==0)=false:=by simpa using c1
  rw[if_neg (fun h=>c1 h.1)]at hR;rw[<-hR];simp[iP,bne,results72]
end Go.Av
namespace Go.aT
def xh(D:aN)(j p:Int):aN×Int:=if ig D.kept.length j p=0 then(if(D.write 0 [ey 0 0]).2=0 then DY (D.write 0 [ey 0 0]).1 1 j else D.write 0 [ey 0 0])else(D,ig D.kept.length j p)
end Go.aT
namespace Go.Av
open Go.Proofs Go.Proofs.Tryz Go.aT
theorem DA(D:aN)(b:Nat)(hD:dO b D)(j p:Int)(hb:b<=1000000):aE prog 22 [.obj 0 0,.p (.agg false [.int j,.int p])] ⟨cE 3 D,cn 3,4⟩ (.p (.int (xh D j p).2)) ⟨cE 4 (xh D j p).1,cn 4,5⟩:=by
 have hR:=Cl D hD.top j p;obtain⟨R,iT⟩:∃R,xh D j p=R:=⟨_,rfl⟩;rw[iT];unfold xh at iT;refine ah (rs:=[_]) [] [] [] func22 rfl ?_;simp;refine mC hR rfl ?_;by_cases c1:ig D.kept.length j p=0
 ·have hj:0<=j/\j<=1000000:=by unfold ig at c1;split at c1<;>omega
  have hW:=q_ D b hD 0 (by omega) [ey 0 0] (by simp) (by simp;omega);have hWD:=hD.write 0 [ey 0 0];rw[if_pos c1]at iT;generalize D.write 0 [ey 0 0]=W at hW hWD iT;simp[c1];refine bS (y9 0 0) ?_;simp;refine aA hW (by simp) (by simp[ay,aj]) (by simp[ay]) rfl ?_;by_cases c2:W.2=0
  ·rw[if_pos c2]at iT;rw[<-iT];simp[c2];refine qU [0,1,2,4] (PD W.1 _ hWD 1 j (by omega) hj (by simp only[List.length_cons,List.length_nil];omega)) ?_;simp[aj,results22];exact⟨[(4,5)],by simp⟩
  ·have dM:(W.2 !=0)=true:=by simpa using c2
   rw[if_neg c2]at iT;rw[<-iT];simp[dM,results22];exact⟨[],by simp[aj]⟩
 ·have iP:(ig D.kept.length j p !=0)=true:=by simpa using c1
  rw[if_neg c1]at iT;rw[<-iT];simp[iP,results22];exact⟨[(4,3)],by simp[aj]⟩
end Go.Av
namespace Go.Av
open Go.Proofs Go.Proofs.Tryz
abbrev uK(l:List UInt8)(c:UInt8):Int:=Go.Lib.indexByte l c
theorem Sk(c:UInt8):((c.toNat:Int)).toNat.toUInt8=c:=by simp
theorem W2(l:List UInt8)(c:UInt8):Sl prog 377 [.str l,.sc (.int .u8 c.toNat)] (.int (uK l c)):=by
 refine⟨Tryz.f377,Extern.BytealgIndexByte.indexByte,func377,by kernel_rfl,by kernel_rfl,by kernel_rfl,by kernel_rfl,?_⟩;intro M w vs hH hr;cases hr with
 |cons h1 hs=>
  cases hs with
  |cons h2 hs=>
   cases hs;have h1:=bF (.p (g:=⟨M,fun _=>none,fun _=>none⟩) h1);have h2:=bF (.p (g:=⟨M,fun _=>none,fun _=>none⟩) h2);subst h1;subst h2;refine⟨.int .i64 (uK l c),?_,.sc _ rfl⟩;have:=Go.Lib.run_indexByteString (P:=prog) ⟨l.toArray⟩ (c.toNat:Int) w;rw[Sk]at this;exact this
theorem A7(l:List UInt8)(c:UInt8):aq prog 345 [.str l,.sc (.int .u8 c.toNat)] (.int (uK l c)):=by
 refine ai (ys:=[_]) [] [] [] func345 rfl ?_;simp;refine NQ (W2 l c) (by simp) ?_;simp[results345]
theorem NR(l:List UInt8)(c:UInt8):aq prog 303 [.str l,.sc (.int .u8 c.toNat)] (.int (uK l c)):=by
 refine ai (ys:=[_]) [] [] [] func303 rfl ?_;simp;refine bS (A7 l c) ?_;simp[results303]
theorem NS(c:UInt8):uK [c] c=0:=by simp[uK,Go.Lib.indexByte]
theorem NT(l:List UInt8)(c:UInt8):aq prog 293 [.str l,.str [c]] (.int (uK l c)):=by
 refine ai (ys:=[_]) [] [] [] func293 rfl ?_;by_cases h:[c]=l
 ·subst h;simp[results293,NS]
 ·have hd:([c]==l)=false:=by simpa using h
  simp[hd];refine bS (A7 l c) ?_;simp[results293]
theorem MN(l:List UInt8)(c:UInt8):aq prog 216 [.str l,.str [c]] (.int (uK l c)):=by
 refine ai (ys:=[_]) [] [] [] func216 rfl ?_;simp;refine bS (NT l c) ?_;simp[results216]
def Gk(c:UInt8):Bool:=(decide (97<=c.toNat)&&decide (c.toNat<=122))||((decide (65<=c.toNat)&&decide (c.toNat<=90))||(decide (48<=c.toNat)&&decide (c.toNat<=57)))
def yV(c:UInt8):Bool:=(decide (32<=c.toNat)&&!decide (c.toNat=127))||decide (c.toNat=9)
def marks:List UInt8:=[33,35,36,37,38,39,42,43,45,46,94,95,96,124,126]
def qn(c:UInt8):Bool:=Gk c||decide (0<=uK marks c)
theorem NU(c:UInt8):aq prog 302 [mG c] (.bool (Gk c)):=by
 refine ai (ys:=[_]) [] [] [] func302 rfl ?_;unfold Gk mG;generalize c.toNat=k;by_cases a1:97<=k
 ·have b1:(97:Int)<=(k:Int):=by omega
  by_cases a2:k<=122
  ·have b2:(k:Int)<=122:=by omega
   simp[a1,a2,b1,b2,results302]
  ·have b2:¬(k:Int)<=122:=by omega
   have b3:(65:Int)<=(k:Int):=by omega
   have b4:¬(k:Int)<=90:=by omega
   have b5:(48:Int)<=(k:Int):=by omega
   have b6:¬(k:Int)<=57:=by omega
   simp[a1,a2,b1,b2,b3,b4,b5,b6,show 65<=k by omega,show¬k<=90 by omega,show 48<=k by omega,show¬k<=57 by omega,results302]
 ·have b1:¬(97:Int)<=(k:Int):=by omega
  by_cases a3:65<=k
  ·have b3:(65:Int)<=(k:Int):=by omega
   by_cases a4:k<=90
   ·have b4:(k:Int)<=90:=by omega
    simp[a1,a3,a4,b1,b3,b4,results302]
   ·have b4:¬(k:Int)<=90:=by omega
    have b5:(48:Int)<=(k:Int):=by omega
    have b6:¬(k:Int)<=57:=by omega
    simp[a1,a3,a4,b1,b3,b4,b5,b6,show 48<=k by omega,show¬k<=57 by omega,results302]
  ·have b3:¬(65:Int)<=(k:Int):=by omega
   by_cases a5:48<=k
   ·have b5:(48:Int)<=(k:Int):=by omega
    by_cases a6:k<=57
    ·have b6:(k:Int)<=57:=by omega
     simp[a1,a3,a5,a6,b1,b3,b5,b6,results302]
    ·have b6:¬(k:Int)<=57:=by omega
     simp[a1,a3,a5,a6,b1,b3,b5,b6,results302]
   ·have b5:¬(48:Int)<=(k:Int):=by omega
    simp[a1,a3,a5,b1,b3,b5,results302]
theorem Sn(c:UInt8):aq prog 349 [mG c] (.bool (yV c)):=by
 refine ai (ys:=[_]) [] [] [] func349 rfl ?_;unfold yV mG;generalize c.toNat=k;by_cases a1:32<=k
 ·have b1:(32:Int)<=(k:Int):=by omega
  by_cases a2:k=127
  ·subst a2;simp[results349]
  ·have b2:((k:Int) !=127)=true:=by simp;omega
   simp[a1,a2,b1,b2,results349]
 ·have b1:¬(32:Int)<=(k:Int):=by omega
  by_cases a3:k=9
  ·subst a3;simp[results349]
  ·have b3:((k:Int)==9)=false:=by simp;omega
   simp[a1,a3,b1,b3,results349]
theorem adA(c:UInt8):aq prog 301 [mG c] (.bool (qn c)):=by
 refine ai (ys:=[_]) [] [] [] func301 rfl ?_;unfold qn;simp;refine bS (NU c) ?_;cases Gk c with
 |true=>simp[results301]
 |false=>
  simp;refine bZ (NR marks c) (by simp[marks]) ?_;simp[results301]
theorem UO{g:FuncId}(q:UInt8->Bool)(l:List UInt8)(hl:l.length<=140737488351232)(hq:∀c,aq prog g [mG c] (.bool (q c))):aq prog 300 [.str l,.fn (.func g) []] (.bool (l.all q)):=by
 refine ai (ys:=[_]) [] [] [] func300 rfl ?_;simp;refine bg (fun k:Nat=>k<=l.length/\l.all q=(l.drop k).all q) (fun k=>[(0,.p (.str l)),(1,.p (.fn (.func g) [])),(7,.p (.int l.length)),(8,.p (.int k))]) (fun k=>l.length-k) 0 (by simp) (ak (by simp)) ?_;rintro k ⟨h1,h2⟩;by_cases c:k<l.length
 ·rw[List.drop_eq_getElem_cons c,List.all_cons]at h2;simp[c];refine bS (hq l[k]) ?_;cases hz:q l[k]with
  |true=>
   rw[hz]at h2;simp;refine⟨k+1,⟨by omega,by simpa using h2⟩,by omega,ak ?_⟩;simp[aD (n:=(k:Int)+1)]
  |false=>
   rw[hz,Bool.false_and]at h2;simp[h2,results300]
 ·obtain rfl:k=l.length:=by omega
  rw[List.drop_length,List.all_nil]at h2;simp[h2,results300]
theorem B4(l:List UInt8)(hl:l.length<=140737488351232):aq prog 220 [.str l] (.bool (decide (l≠[])&&l.all qn)):=by
 refine ai (ys:=[_]) [] [] [] func220 rfl ?_;by_cases h:l=[]
 ·subst h;simp[results220]
 ·have hd:(l !=[])=true:=by simpa using h
  simp[h,hd];refine bS (UO qn l hl adA) ?_;simp[results220]
end Go.Av
namespace Go.Proofs
open Go.Shelf
def Tryz.wu:Go.Shelf.Ren:=⟨fun|227=>394|n=>n,fun|9=>9|116=>474|4=>4|0=>0|3=>3|5=>5|n=>n,fun|n=>n⟩
theorem Tryz.RF:Go.Proofs.Lays.n227 Tryz.prog Tryz.wu:={
 mixed:=by kernel_rfl
 f227:=Tryz.func394.trans (congrArg some (by kernel_rfl))
 t0:=Tryz.underlying0
 a0:=Tryz.isAgg0
 z0:=Tryz.sizeOf0
 v0:=Tryz.zeroValue0
 t3:=Tryz.underlying3
 a3:=Tryz.isAgg3
 z3:=Tryz.sizeOf3
 v3:=Tryz.zeroValue3
 t4:=Tryz.underlying4
 a4:=Tryz.isAgg4
 z4:=Tryz.sizeOf4
 v4:=Tryz.zeroValue4
 t5:=Tryz.underlying5
 a5:=Tryz.isAgg5
 z5:=Tryz.sizeOf5
 v5:=Tryz.zeroValue5
 t9:=Tryz.underlying9
 a9:=Tryz.isAgg9
 z9:=Tryz.sizeOf9
 v9:=Tryz.zeroValue9
 t116:=Tryz.underlying474
 a116:=Tryz.isAgg474
 z116:=Tryz.sizeOf474}
end Go.Proofs
namespace Go.Av
open Go.Proofs Go.Proofs.Tryz Go.RowKit Go.Shelf
def qB(c:UInt8):Bool:=decide (33<=c.toNat)&&decide (c.toNat<=126)
def tQ(l:List UInt8):Bool:=decide (l≠[])&&l.all qB
theorem JW(l:List UInt8)(hl:l.length<=140737488351232):aq prog 294 [.str l] (.bool (tQ l)):=by
 refine ai (ys:=[_]) [] [] [] func294 rfl ?_;simp;refine bg (fun k:Nat=>k<=l.length/\l.all qB=(l.drop k).all qB) (fun k=>[(0,.p (.str l)),(5,.p (.int l.length)),(6,.p (.int k))]) (fun k=>l.length-k) 0 (by simp) (ak (by simp)) ?_;rintro k ⟨h1,h2⟩;by_cases c:k<l.length
 ·rw[List.drop_eq_getElem_cons c,List.all_cons]at h2;have hne:l≠[]:=by intro h;subst h;simp at c
  by_cases a1:l[k].toNat<=32
  ·have b1:(l[k].toNat:Int)<=32:=by omega
   have hv:qB l[k]=false:=by unfold qB;simp;omega
   rw[hv,Bool.false_and]at h2;simp[c,b1,results294,tQ,h2]
  ·have b1:¬(l[k].toNat:Int)<=32:=by omega
   by_cases a2:127<=l[k].toNat
   ·have b2:(127:Int)<=(l[k].toNat:Int):=by omega
    have hv:qB l[k]=false:=by unfold qB;simp;omega
    rw[hv,Bool.false_and]at h2;simp[c,b1,b2,results294,tQ,h2]
   ·have b2:¬(127:Int)<=(l[k].toNat:Int):=by omega
    have hv:qB l[k]=true:=by unfold qB;simp;omega
    rw[hv,Bool.true_and]at h2;simp[c,b1,b2];refine⟨k+1,⟨by omega,h2⟩,by omega,ak ?_⟩;simp[aD (n:=(k:Int)+1)]
 ·obtain rfl:k=l.length:=by omega
  rw[List.drop_length,List.all_nil]at h2;by_cases hne:l=[]
  ·subst hne;simp[results294,tQ]
  ·have hd:(l !=[])=true:=by simpa using hne
   simp[results294,tQ,h2,hne,hd]
def vH:List PC:=(List.range 256).map fun c=> .sc (.bool (decide (c=32\/c=9)))
theorem K4:(Lib.setCells [32,9]).toList=(List.range 256).map fun c=>Value.bool (decide (c=32\/c=9)):=by kernel_rfl
theorem E3{M:Mem}{w w':World}(h:gB w M)(hB:Below w.heap.size w w'):gB w' M:=⟨fun b o v e=>by
 have hlt:=h.lt e;rw[hB.cell (p:=⟨b,o,none⟩) hlt];exact h b o v e,h.g⟩
theorem zN{M:Mem}(f:Nat->Bool):∀l:List Nat,cJ M (l.map fun c=>Value.bool (f c)) (l.map fun c=>PC.sc (.bool (f c)))
 |[]=> .nil
 |a::l=> .cons (.sc _ rfl) (zN f l)
theorem qJ{M:Mem}(f:Nat->Bool):∀{l:List Nat} {us:List Value},cJ M us (l.map fun c=>PC.sc (.bool (f c)))->us=l.map fun c=>Value.bool (f c)
 |[],_,.nil=>rfl
 |a::l,_,.cons h hs=>by
  cases h;rw[qJ f hs];rfl
theorem G1:aq prog 394 [.str [32,9]] (.tp [.agg false vH,.bool true]):=by
 refine⟨⟨_,func394,by kernel_rfl,by kernel_rfl⟩,fun M w vs hH hr=>?_⟩;cases hr with
 |cons h hs=>
  cases hs;cases h;have hi:(prog.info? (Tryz.wu.t 116)).map (fun i=>(i.zero,i.size))=some (some (.agg (Array.replicate 256 (.bool false))),256):=by kernel_rfl
  refine(Any.strings_makeASCIISet Tryz.RF (zero_of_info hi).1 (zero_of_info hi).2 ⟨#[32,9]⟩ w (by decide) (fun j b e=>?_)).mono fun e w' ⟨h1,h2⟩=>?_
  ·match j,e with
   |0,e=>cases e;decide
   |1,e=>cases e;decide
   |j+2,e=>cases e
  ·have hB:Below w.heap.size w w':=by rw[h2];exact(Below.refl _ _).alloc (Nat.le_refl _) _
   refine⟨_,M,h1,?_,E3 hH hB,Mem.le_refl _,fun _ _=>rfl,hB⟩;have e1:(Value.agg (Lib.setCells (ByteArray.mk #[32,9]).data.toList))= .agg ((List.range 256).map fun c=>Value.bool (decide (c=32\/c=9))).toArray:=by
    exact congrArg Value.agg (Array.ext' (K4.trans List.toList_toArray.symm))
   rw[e1];refine gO.qi (vs:=[_,_]) (.cons (.agg (zN _ _) ?_) (.cons (.sc _ rfl) .nil));intro v hv;obtain⟨c,_,rfl⟩:=List.mem_map.1 hv;rfl
theorem C2(b off:Nat)(x:UInt8)(v:Bool)(w:World)(hc:w.cell? ⟨b,off+x.toNat,none⟩=some (.bool v)):Calls prog 402 #[.pointer (some ⟨b,off,none⟩),.int .u8 x.toNat] w fun e w'=>e= .returned (.bool v)/\w'=w:=by
 have alL:(x.toNat:Int)<256:=by have:=UInt8.toNat_lt x;omega
 go_enter func402,ntmps402
 go_wp2
 go_ret
 exact⟨rfl,rfl⟩
def Bh(c:UInt8):Bool:=decide (c.toNat=32\/c.toNat=9)
theorem wS(x:UInt8):aq prog 402 [.ref (.agg false vH),mG x] (.bool (Bh x)):=by
 refine⟨⟨_,func402,by kernel_rfl,by kernel_rfl⟩,fun M w vs hH hr=>?_⟩;cases hr with
 |cons h hs=>
  cases hs with
  |cons h2 hs=>
  cases hs;cases h2;cases h with
  |ref hat h=>
   rename_i b off u;have hx:=UInt8.toNat_lt x;have hcell:w.cell? ⟨b,off+x.toNat,none⟩=some (.bool (Bh x)):=by
    refine hH _ _ _ (hat x.toNat _ ?_);cases h with
    |agg hs h1=>
     rename_i us;have e:us=(List.range 256).map fun c=>Value.bool (decide (c=32\/c=9)):=qJ _ hs;subst e;show((List.range 256).map fun c=>Value.bool (decide (c=32\/c=9)))[x.toNat]?=some (.bool (Bh x));rw[List.getElem?_map,List.getElem?_range hx];rfl
   refine(C2 b off x _ w hcell).mono fun e w' ⟨h1,h2⟩=>?_;subst h2;exact⟨_,M,h1,.sc _ rfl,hH,Mem.le_refl _,fun _ _=>rfl,Below.refl _ _⟩
def nK(l:List UInt8):List UInt8:=l.dropWhile Bh
def nJ(l:List UInt8):List UInt8:=(l.reverse.dropWhile Bh).reverse
def rY(l:List UInt8):List UInt8:=nK (nJ l)
theorem zk(l:List UInt8)(a:UInt8):nJ (l++[a])=if Bh a=true then nJ l else l++[a]:=by
 unfold nJ;rw[List.reverse_append,List.reverse_singleton,List.singleton_append,List.dropWhile_cons];split
 ·rfl
 ·simp
theorem Ev(l:List UInt8):(nJ l).length<=l.length:=by
 unfold nJ;rw[List.length_reverse];have:=(List.dropWhile_sublist (l:=l.reverse) Bh).length_le;simpa using this
theorem Eu(l:List UInt8):(nK l).length<=l.length:=(List.dropWhile_sublist Bh).length_le
theorem Pv(l:List UInt8)(hl:l.length<=140737488351232):aq prog 395 [.str l,.ref (.agg false vH)] (.str (nK l)):=by
 refine ai (ys:=[_]) [] [] [] func395 rfl ?_;simp;refine bg (fun s:List UInt8=>s.length<=l.length/\nK l=nK s) (fun s=>[(0,.p (.str s)),(1,.p (.ref (.agg false vH)))]) (fun s=>s.length) l (by simp) (ak (by simp)) ?_;rintro s ⟨h1,h2⟩;cases s with
 |nil=>rw[h2];simp[results395,nK]
 |cons a s=>
  rw[h2];have hd:(0:Int)<((s.length:Int)+1):=by omega
  simp[hd];refine bS (wS a) ?_;unfold nK;rw[List.dropWhile_cons];cases hb:Bh a with
  |false=>simp[results395]
  |true=>
   simp;refine⟨s,⟨by simp at h1;omega,?_⟩,by simp,ak ?_⟩
   ·first|rfl|simp
   ·simp
end Go.Av
namespace Go.Av
open Go.Proofs Go.Proofs.Tryz
theorem Po{l:List PC}(h:∀x∈l,ga x=[x]):l.flatMap ga=l:=by
 induction l with
 |nil=>rfl
 |cons x l ih=>rw[List.flatMap_cons,h x (by simp),ih fun y hy=>h y (by simp[hy])];rfl
theorem Pp(l:List UInt8)(hl:l.length<=140737488351232):aq prog 396 [.str l,.ref (.agg false vH)] (.str (nJ l)):=by
 refine ai (ys:=[_]) [] [] [] func396 rfl ?_;simp;obtain⟨r,hr⟩:∃r,r=nJ l:=⟨_,rfl⟩;rw[<-hr];refine bg (fun k:Nat=>k<=l.length/\r=nJ (l.take k)) (fun k=>[(0,.p (.str (l.take k))),(1,.p (.ref (.agg false vH)))]) (fun k=>k) l.length (by simp[hr]) (ak (by simp)) ?_;rintro k ⟨h1,h2⟩;have hm:min k l.length=k:=Nat.min_eq_left h1;cases k with
 |zero=>rw[h2];simp[results396,nJ]
 |succ k=>
  have hk:k<l.length:=by omega
  have hd:(0:Int)<((k:Int)+1):=by omega
  have w1:IntKind.i64.wrap (k:Int)=(k:Int):=aD;have hsp:l.take (k+1)=l.take k++[l[k]]:=iA hk;have hb:=zk (l.take k) l[k];rw[<-hsp,<-h2]at hb;simp[hm,hd,w1];refine bS (wS l[k]) ?_;cases hz:Bh l[k]with
  |false=>
   rw[hz]at hb;simp at hb;simp[hb,results396]
  |true=>
   rw[hz]at hb;simp at hb;simp[hm,w1];refine⟨k,⟨by omega,hb⟩,by omega,ak ?_⟩;simp[List.take_take]
   try omega
theorem Pq{bx:List (Nat×Ob)}{k:Nat}(x:PC):cQ bx (k+1) (.p x) x:=by
 unfold cQ;exact⟨x,rfl,.inl rfl⟩
theorem Pr{bx:List (Nat×Ob)}{k:Nat}:∀l:List PC,gY (cQ bx (k+1)) (l.map .p) l
 |[]=>trivial
 |x::l=>⟨Pq x,Pr l⟩
theorem Pt:vH.length=256:=by simp[vH]
def f256:List PC:=List.replicate 256 (.sc (.bool false))
theorem EX:f256.length=256:=List.length_replicate
theorem Pu:bG prog 474=some f256:=by kernel_rfl
theorem KS:(f256.map AV.p).drop 256=[]:=List.drop_of_length_le (by rw[List.length_map,EX];exact Nat.le_refl _)
theorem TR(l:List UInt8)(hl:l.length<=140737488351232):aq prog 379 [.str l,.str [32,9]] (.str (rY l)):=by
 refine ai (ys:=[_]) [] [] [] func379 rfl ?_;by_cases h:l=[]
 ·subst h;simp[results379,rY,nJ,nK]
 ·have hd:(l==[])=false:=by simpa using h
  simp[hd];refine bS G1 ?_;simp[Pu,EX,Pt,KS];have bo:∀k:Nat,cQ [(0,({el:=474,sz:=256,xs:=vH.map AV.p}:Ob))] (k+2) (.obj 0 0) (.ref (.agg false vH)):=fun k=>by
   refine⟨_,rfl,by simp,?_⟩;simp only[List.drop_zero];have e:(vH.map AV.p).take vH.length=vH.map AV.p:=fY (by simp);rw[e];exact Pr _
  refine bD (Pp l hl) ⟨Pq _,bo _,trivial⟩ rfl ?_;simp;refine bD (Pv (nJ l) (Nat.le_trans (Ev l) hl)) ⟨Pq _,bo _,trivial⟩ rfl ?_;simp[rY,results379]
theorem Za(l:List UInt8)(hl:l.length<=140737488351232):aq prog 350 [.str l] (.str (rY l)):=by
 refine ai (ys:=[_]) [] [] [] func350 rfl ?_;simp;refine bS (TR l hl) ?_;simp[results350]
def F6(l:List UInt8):Bool:=l.all yV&&(rY l==l)
theorem HJ(l:List UInt8)(hl:l.length<=140737488351232):aq prog 295 [.str l] (.bool (F6 l)):=by
 refine ai (ys:=[_]) [] [] [] func295 rfl ?_;simp;refine bS (UO yV l hl Sn) ?_;unfold F6;cases l.all yV with
 |false=>simp[results295]
 |true=>
  simp;refine bS (Za l hl) ?_;simp[results295]
def qD(c:UInt8):UInt8:=if 65<=c.toNat/\c.toNat<=90 then c+32 else c
def oQ(l:List UInt8):List UInt8:=l.map qD
abbrev Pw(l:List UInt8):Ob:=⟨1000005,1,(af l).map .p⟩
def pX(l:List UInt8)(k:Nat):List UInt8:=(l.take k).map qD++l.drop k
theorem vz{n:Int}(h0:0<=n)(h1:n<=255):IntKind.u8.wrap n=n:=by
 have e1:IntKind.u8.bits=8:=rfl;simp[IntKind.wrap,e1]
 try (have e2:IntKind.u8.signed=false:=rfl)
 try simp[e2]
 omega
theorem Px(l:List UInt8)(k:Nat):(pX l k).length=l.length:=by simp[pX];omega
theorem TS(l:List UInt8)(k:Nat)(h:k<l.length):(pX l k)[k]?=some l[k]:=by
 unfold pX;rw[List.getElem?_append_right (by simp;omega)];simp[Nat.min_eq_left (Nat.le_of_lt h),h]
theorem Py(l:List UInt8)(k:Nat)(h:k<l.length):(pX l k).set k (qD l[k])=pX l (k+1):=by
 unfold pX;rw[List.set_append_right _ _ (by simp;omega)];have e:((l.take k).map qD).length=k:=by simp;omega
 rw[e,Nat.sub_self,List.drop_eq_getElem_cons h,List.set_cons_zero,iA h,List.map_append,List.append_assoc];rfl
theorem Ex(c:UInt8)(h1:65<=c.toNat)(h2:c.toNat<=90):(qD c).toNat=c.toNat+32:=by
 unfold qD;rw[if_pos ⟨h1,h2⟩,UInt8.toNat_add];have:(32:UInt8).toNat=32:=rfl;rw[this];omega
theorem TT{bx:List (Nat×Ob)}{k id n:Nat}{c:Option Nat}{L M:List UInt8}(hn:n=L.length)(h:lk id bx=some (Pw (L++M))):cQ bx (k+1) (.view id 0 n 1 c) (.sl (af L)):=by
 refine⟨_,h,by omega,by simp[hn],by simp[hn],?_,?_,?_⟩
 ·rw[sZ,Po (fun x hx=>by simp only[af,List.mem_map]at hx;obtain⟨_,_,rfl⟩:=hx;rfl)];subst hn;simp[af]
  try (rw[List.take_append_of_le_length (by simp)];exact fY (by simp))
 ·intro y hy;simp only[af,List.mem_map]at hy;obtain⟨e,_,rfl⟩:=hy;rfl
 ·intro y hy;simp only[af,List.mem_map]at hy;obtain⟨e,_,rfl⟩:=hy;rfl
theorem RJ(l:List UInt8)(hl:l.length<=140737488351232):aq prog 221 [.str l] (.str (oQ l)):=by
 refine ai (ys:=[_]) [7] [] [] func221 rfl ?_;simp;refine⟨by omega,?_⟩;refine aL (fun k:Nat=>k<=l.length) (fun k=>[(3,.view 0 0 l.length 1 none),(8,.view 0 0 l.length 1 none),(9,.p (.int l.length)),(10,.p (.int k))]) (fun k=>⟨[(0,Pw (pX l k))],[],1⟩) (fun k=>l.length-k) 0 (by simp) _ (AS.le_refl _ _) (ak (by simp[pX])) ?_;rintro k h1;have hlen:=Px l k;by_cases c:k<l.length
 ·have hat:=TS l k c;have hg:(pX l k)[k]'(by omega)=l[k]:=by
   have:=kq (l:=pX l k) (i:=k) (by omega);rw[hat]at this;injection this with this;exact this.symm
  have hs:=Py l k c;have hrow:∀v:UInt8,((af (pX l k)).map AV.p).take k++AV.p (mG v)::((af (pX l k)).map AV.p).drop (k+1)=(af ((pX l k).set k v)).map AV.p:=fun v=>by
   rw[<-List.map_take,<-List.map_drop];simp only[af,<-List.map_take,<-List.map_drop];rw[List.set_eq_take_append_cons_drop,if_pos (by omega)];simp
  have hsame:qD l[k]=l[k]->pX l (k+1)=pX l k:=fun e=>by
   rw[<-hs,e,<-hg];exact List.set_getElem_self _
  by_cases a1:65<=l[k].toNat
  ·have b1:(65:Int)<=(l[k].toNat:Int):=by omega
   by_cases a2:l[k].toNat<=90
   ·have b2:(l[k].toNat:Int)<=90:=by omega
    have w1:IntKind.u8.wrap ((l[k].toNat:Int)+97)=(l[k].toNat:Int)+97:=vz (by omega) (by omega);have w2:IntKind.u8.wrap ((l[k].toNat:Int)+97-65)=((qD l[k]).toNat:Int):=by
     rw[vz (by omega) (by omega),Ex _ a1 a2];omega
    simp[c,hlen,cH,hg,b1,b2,w1,w2];refine⟨by omega,k+1,by omega,by omega,ak ?_⟩;simp[aD (n:=(k:Int)+1)];rw[<-hs];have hr:=hrow (qD l[k]);unfold mG at hr;rw[hr];exact List.prefix_refl _
   ·have b2:¬(l[k].toNat:Int)<=90:=by omega
    have hl':qD l[k]=l[k]:=by unfold qD;rw[if_neg (by omega)]
    simp[c,hlen,cH,hg,b1,b2];refine⟨k+1,by omega,by omega,ak ?_⟩;simp[aD (n:=(k:Int)+1),hsame hl']
  ·have b1:¬(65:Int)<=(l[k].toNat:Int):=by omega
   have hl':qD l[k]=l[k]:=by unfold qD;rw[if_neg (by omega)]
   simp[c,hlen,cH,hg,b1];refine⟨k+1,by omega,by omega,ak ?_⟩;simp[aD (n:=(k:Int)+1),hsame hl']
 ·obtain rfl:k=l.length:=by omega
  simp;have hM:pX l l.length=oQ l:=by simp[pX,oQ]
  refine UE (oQ l) (by simp) (by simp) ?_ ?_
  ·rw[hM];exact TT (M:=[]) (by simp[oQ]) (by simp[lk])
  ·simp[results221]
structure Jt where
 m:List UInt8
 t:List UInt8
 st:Int
 r:List UInt8
 mi:Int
def ND:Jt:=⟨[],[],0,[],0⟩
abbrev stP(s:Jt):PC:= .agg false [.str s.m,.str s.t,.int s.st,.str s.r,.int s.mi]
def C_(l:List UInt8):Bool:=decide (l≠[])&&l.all qn
def AO(s:Jt):Bool:=C_ s.m&&(decide (s.m.length<=32)&&(tQ s.t&&(decide (s.t.length<=8000)&&(decide (s.st=0)&&(s.r==[])))))
def AP(s:Jt):Bool:=(s.m==[])&&((s.t==[])&&(decide (100<=s.st)&&(decide (s.st<=999)&&(F6 s.r&&decide (s.r.length<=200)))))
theorem Ws(s:Jt)(hm:s.m.length<=140737488351232)(ht:s.t.length<=140737488351232):aq prog 217 [stP s] (.bool (AO s)):=by
 refine ai (ys:=[_]) [] [] [] func217 rfl ?_;obtain⟨m,t,st,r,mi⟩:=s;simp only at hm ht;simp only[stP,AO];simp;refine bS (B4 m hm) ?_;rw[show(decide (m≠[])&&m.all qn)=C_ m from rfl];cases h1:C_ m with
 |false=>simp[results217]
 |true=>
 by_cases h2:m.length<=32
 case neg=>
  have d2:¬(m.length:Int)<=32:=by omega
  simp[h2,d2,results217]
 have d2:(m.length:Int)<=32:=by omega
 simp[h2,d2];refine bS (JW t ht) ?_;cases h3:tQ t with
 |false=>simp[results217]
 |true=>
 by_cases h4:t.length<=8000
 case neg=>
  have d4:¬(t.length:Int)<=8000:=by omega
  simp[h4,d4,results217]
 have d4:(t.length:Int)<=8000:=by omega
 by_cases h5:st=0
 case neg=>
  have d5:(st==0)=false:=by simpa using h5
  simp[h4,d4,h5,d5,results217]
 subst h5;simp[h4,d4,results217]
theorem Ju(s:Jt)(hr:s.r.length<=140737488351232):aq prog 218 [stP s] (.bool (AP s)):=by
 refine ai (ys:=[_]) [] [] [] func218 rfl ?_;obtain⟨m,t,st,r,mi⟩:=s;simp only at hr;simp only[stP,AP];simp;by_cases h1:m=[]
 case neg=>
  have d1:m.isEmpty=false:=by simpa using h1
  simp[d1,results218]
 subst h1;by_cases h2:t=[]
 case neg=>
  have d1:t.isEmpty=false:=by simpa using h2
  simp[d1,results218]
 subst h2;by_cases h3:100<=st
 case neg=>simp[h3,results218]
 by_cases h4:st<=999
 case neg=>simp[h3,h4,results218]
 simp[h3,h4];refine bS (HJ r hr) ?_;cases h5:F6 r with
 |false=>simp[results218]
 |true=>
 by_cases h6:r.length<=200
 ·have d6:(r.length:Int)<=200:=by omega
  simp[h6,d6,results218]
 ·have d6:¬(r.length:Int)<=200:=by omega
  simp[h6,d6,results218]
end Go.Av
namespace Go.aT
open Go.Av
def yx(f:Go.Av.Fd):Bool:=C_ f.1&&F6 f.2
def nC(fs:List Go.Av.Fd):Nat:=(fs.map fun f=>f.1.length+f.2.length+4).sum+2
def uR(fs:List Go.Av.Fd):Int:=if fs.any (fun f=>!yx f)=true then 10 else if 128<fs.length then 13 else if 65536<nC fs then 12 else 0
def rL(n m:Int):Bool:=decide (0<=n)&&decide (n<=m)
def qb(n:Int):Int:=if n<1 then 0 else(n-1)/64+1
end Go.aT
namespace Go.Av
open Go.Proofs Go.Proofs.Tryz Go.aT
def Jd(s:Jt):Bool:=(decide (s.mi=0)||decide (s.mi=1))&&(AO s||AP s)
theorem ML(s:Jt)(hm:s.m.length<=140737488351232)(ht:s.t.length<=140737488351232)(hr:s.r.length<=140737488351232):aq prog 138 [stP s] (.bool (Jd s)):=by
 refine ai (ys:=[_]) [] [] [] func138 rfl ?_;unfold Jd;have hA:=Ws s hm ht;have hB:=Ju s hr;generalize AO s=A at*;generalize AP s=B at*;obtain⟨m,t,st,r,mi⟩:=s;simp only[stP]at hA hB⊢;by_cases c1:mi=0
 ·subst c1;simp;refine bS hA ?_;cases A with
  |true=>simp[results138]
  |false=>
   simp;refine bS hB ?_;simp[results138]
 have d1:(mi==0)=false:=by simpa using c1
 by_cases c2:mi=1
 ·subst c2;simp;refine bS hA ?_;cases A with
  |true=>simp[results138]
  |false=>
   simp;refine bS hB ?_;simp[results138]
 have d2:(mi==1)=false:=by simpa using c2
 simp[c1,c2,d1,d2,results138]
theorem Jv(f:Go.Av.Fd)(h1:f.1.length<=140737488351232)(h2:f.2.length<=140737488351232):aq prog 298 [nX f] (.bool (yx f)):=by
 refine ai (ys:=[_]) [] [] [] func298 rfl ?_;simp;refine bS (B4 f.1 h1) ?_;rw[show(decide (f.1≠[])&&f.1.all qn)=C_ f.1 from rfl];unfold yx;cases C_ f.1 with
 |false=>simp[results298]
 |true=>
  simp;refine bS (HJ f.2 h2) ?_;simp[results298]
theorem Rq(f:Go.Av.Fd)(h1:f.1.length<=140737488351232)(h2:f.2.length<=140737488351232):aq prog 297 [nX f] (.bool (!yx f)):=by
 refine ai (ys:=[_]) [] [] [] func297 rfl ?_;simp;refine bS (Jv f h1 h2) ?_;simp[results297]
theorem DB(n m:Int):aq prog 141 [.int n,.int m] (.bool (rL n m)):=by
 refine ai (ys:=[_]) [] [] [] func141 rfl ?_;unfold rL;by_cases c:0<=n
 ·simp[c,results141]
 ·simp[c,results141]
theorem F7(n:Int)(h:n<=1000000000):aq prog 222 [.int n] (.int (qb n)):=by
 refine ai (ys:=[_]) [] [] [] func222 rfl ?_;unfold qb;by_cases c:n<1
 ·simp[c,results222]
 ·have w1:IntKind.i64.wrap (n-1)=n-1:=aD;have w2:IntKind.i64.wrap ((n-1)/64)=(n-1)/64:=aD;have w3:IntKind.i64.wrap ((n-1)/64+1)=(n-1)/64+1:=aD;have w4:(n-1).tdiv 64=(n-1)/64:=Int.tdiv_eq_ediv_of_nonneg (by omega);simp[c,w1,w4,w2,w3,results222]
theorem Dk(a b:List UInt8)(ha:a.length<=140737488351232)(hb:b.length<=140737488351232):aq prog 64 [.str a,.str b] (.str (a++10::b)):=by
 refine ai (ys:=[_]) [] [] [] func64 rfl ?_;simp[results64];omega
theorem DC(a:List UInt8)(c:UInt8):aq prog 137 [.str a,.str [c]] (.bool (decide (0<=uK a c))):=by
 refine ai (ys:=[_]) [] [] [] func137 rfl ?_;simp;refine bS (MN a c) ?_;simp[results137]
theorem DE(l:List Go.Av.Fd)(f:Go.Av.Fd):nC (l++[f])=nC l+(f.1.length+f.2.length+4):=by simp[nC];omega
theorem DF(l:List Go.Av.Fd)(k:Nat):nC (l.take k)<=nC l:=by
 have h:l.map (fun f=>f.1.length+f.2.length+4)=(l.take k).map (fun f=>f.1.length+f.2.length+4)++(l.drop k).map (fun f=>f.1.length+f.2.length+4):=by rw[<-List.map_append,List.take_append_drop]
 unfold nC;rw[h,List.sum_append];omega
theorem MO(l:List Go.Av.Fd)(hl:l.length<=1000000000000)(hs:nC l<=40000000000000000):aq prog 299 [.sl (l.map nX)] (.int (nC l)):=by
 refine ai (ys:=[_]) [] [] [] func299 rfl ?_;simp;refine bg (fun k:Nat=>k<=l.length) (fun k=>[(6,.p (.sl (l.map nX))),(7,.p (.int l.length)),(8,.p (.int k)),(3,.p (.int (nC (l.take k))))]) (fun k=>l.length-k) 0 (by simp) (ak (by simp[nC])) ?_;intro k hk;by_cases ck:k<l.length
 ·have hts:nC (l.take (k+1))=nC (l.take k)+(l[k].1.length+l[k].2.length+4):=by rw[iA ck,DE]
  have hle:=DF l (k+1);have wk:=jq k;have w1:IntKind.i64.wrap ((l[k].1.length:Int)+l[k].2.length)=(l[k].1.length:Int)+l[k].2.length:=aD;have w2:IntKind.i64.wrap ((l[k].1.length:Int)+l[k].2.length+4)=(l[k].1.length:Int)+l[k].2.length+4:=aD;have w3:IntKind.i64.wrap ((nC (l.take k):Int)+((l[k].1.length:Int)+l[k].2.length+4))=(nC (l.take (k+1)):Int):=by rw[aD,hts];omega
  simp[ck,wk,w1,w2,w3];exact⟨k+1,by omega,by omega,ak (by simp)⟩
 ·obtain rfl:k=l.length:=by omega
  simp[results299]
theorem Jw(l:List Go.Av.Fd)(hl:l.length<=1000000000000)(hs:nC l<=40000000000000000)(hf:∀f∈l,f.1.length<=140737488351232/\f.2.length<=140737488351232):aq prog 219 [.sl (l.map nX)] (.int (uR l)):=by
 have hA:=Wt 297 [] (fun f=>!yx f) l (by omega) (fun x hx=>Rq x (hf x hx).1 (hf x hx).2);unfold uR;generalize(l.any fun f=>!yx f)=B at hA⊢;refine ai (ys:=[_]) [] [] [] func219 rfl ?_;simp;refine bS hA ?_;cases B with
 |true=>simp[results219]
 |false=>
  by_cases c2:128<l.length
  ·have dM:(128:Int)<l.length:=by omega
   simp[c2,dM,results219]
  have dM:¬(128:Int)<l.length:=by omega
  simp[c2,dM];refine bS (MO l hl (by omega)) ?_;by_cases c3:65536<nC l
  ·have j_:(65536:Int)<nC l:=by omega
   simp[c3,j_,results219]
  ·have j_:¬(65536:Int)<nC l:=by omega
   simp[c3,j_,results219]
theorem MP(l:List Go.Av.Fd)(hl:l.length<=1000000000000)(hs:nC l<=40000000000000000)(hf:∀f∈l,f.1.length<=140737488351232/\f.2.length<=140737488351232):aq prog 139 [.sl (l.map nX)] (.bool (uR l==0)):=by
 refine ai (ys:=[_]) [] [] [] func139 rfl ?_;simp;refine bS (Jw l hl hs hf) ?_;simp[results139]
end Go.Av
namespace Go.aT
open Go.Av
def k7(e:Int×Int):Bool:=rL e.1 65536&&(decide (1<=e.2)&&decide (e.2<=65536-e.1))
def jD(l:List (Int×Int)):Int:=(l.map (·.2)).sum
def iY(l:List (Int×Int))(size:Int):Bool:=l.all k7&&(decide (l.length<=8)&&(jD l==qb size))
theorem AQ(l:List (Int×Int))(e:Int×Int):jD (l++[e])=jD l+e.2:=by simp[jD]
theorem F8:∀(l:List (Int×Int)),(∀e∈l,k7 e=true)->0<=jD l/\jD l<=65536*l.length
 |[],_=>by simp[jD]
 |e::l,h=>by
  have h1:=F8 l (fun x hx=>h x (by simp[hx]));have h2:=h e (by simp);unfold k7 rL at h2;simp at h2;have:jD (e::l)=e.2+jD l:=by simp[jD]
  rw[this,List.length_cons];omega
end Go.aT
namespace Go.Av
open Go.Proofs Go.Proofs.Tryz Go.aT
abbrev kG(e:Int×Int):PC:= .agg false [.int e.1,.int e.2]
theorem JV(l:List (Int×Int))(size:Int)(hl:l.length<=1000000)(hs:size<=1000000000):aq prog 142 [.sl (l.map kG),.int size] (.bool (iY l size)):=by
 refine ai (ys:=[_]) [] [] [] func142 rfl ?_;simp;refine bg (fun k:Nat=>k<=l.length/\∀e∈l.take k,k7 e=true) (fun k=>[(0,.p (.sl (l.map kG))),(1,.p (.int size)),(8,.p (.sl (l.map kG))),(9,.p (.int l.length)),(10,.p (.int k)),(5,.p (.int (jD (l.take k))))]) (fun k=>l.length-k) 0 ⟨by simp,by simp⟩ (ak (by simp[jD])) ?_;rintro k ⟨hk,hall⟩;by_cases ck:k<l.length
 ·have hts:jD (l.take (k+1))=jD (l.take k)+l[k].2:=by rw[iA ck,AQ]
  have hb:=F8 _ hall;have pH:(l.take k).length<=1000000:=by simp;omega
  have wk:=jq k;have hin:=DB l[k].1 65536;have hmem:l[k]∈l:=List.getElem_mem ck;have oK:l.take (k+1)=l.take k++[l[k]]:=by rw[iA ck]
  have bad:k7 l[k]=false->iY l size=false:=fun h=>by
   have:l.all k7=false:=List.all_eq_false.2 ⟨_,hmem,by simp[h]⟩;unfold iY;rw[this];rfl
  obtain⟨e,he⟩:∃e,l[k]=e:=⟨_,rfl⟩;rw[he]at hts hin bad oK;simp[ck,he];refine bS hin ?_;cases c1:rL e.1 65536 with
  |false=>
   rw[bad (by unfold k7;rw[c1];rfl)];simp[results142]
  |true=>
   have hr:0<=e.1/\e.1<=65536:=by unfold rL at c1;simpa using c1
   by_cases c2:e.2<1
   ·rw[bad (by unfold k7;rw[c1];simp;omega)];simp[c2,results142]
   ·have w1:IntKind.i64.wrap (65536-e.1)=65536-e.1:=aD;by_cases c3:65536-e.1<e.2
    ·rw[bad (by unfold k7;rw[c1];simp;omega)];simp[c2,c3,w1,results142]
    ·have ok:k7 e=true:=by unfold k7;rw[c1];simp;omega
     have w2:IntKind.i64.wrap (jD (l.take k)+e.2)=jD (l.take (k+1)):=by rw[aD,hts]
     simp[c2,c3,w1,w2,wk];refine⟨k+1,⟨by omega,fun x y hx=>?_⟩,by omega,ak (by simp)⟩;rw[oK]at hx;rcases iR.1 hx with hx|hx
     ·exact hall _ hx
     ·rw[List.mem_singleton.1 hx];exact ok
 ·obtain rfl:k=l.length:=by omega
  rw[List.take_length]at hall;have hal:l.all k7=true:=List.all_eq_true.2 hall;unfold iY;rw[hal];by_cases c1:l.length<=8
  ·have iP:(l.length:Int)<=8:=by omega
   simp[c1,iP];refine bS (F7 size hs) ?_;simp[results142]
  ·have iP:¬(l.length:Int)<=8:=by omega
   simp[c1,iP,results142]
end Go.Av
namespace Go.aT
open Go.Av
def s6(l:List (List UInt8))(i:Nat):Bool:=C_ (l.getD i [])&&((oQ (l.getD i [])==l.getD i [])&&(decide (i=0)||Op.bytesLess (l.getD (i-1) []) (l.getD i [])))
def qd(l:List (List UInt8)):Bool:=(List.range l.length).all (s6 l)&&decide (l.length<=128)
end Go.aT
namespace Go.Av
open Go.Proofs Go.Proofs.Tryz Go.aT
theorem Nn(l:List (List UInt8))(hl:l.length<=1000000)(h:∀s∈l,s.length<=140737488351232):aq prog 140 [.sl (l.map PC.str)] (.bool (qd l)):=by
 refine ai (ys:=[_]) [] [] [] func140 rfl ?_;simp;refine bg (fun k:Nat=>k<=l.length/\∀i,i<k->s6 l i=true) (fun k=>[(0,.p (.sl (l.map PC.str))),(5,.p (.sl (l.map PC.str))),(6,.p (.int l.length)),(7,.p (.int k))]) (fun k=>l.length-k) 0 ⟨by simp,by intro i hi;omega⟩ (ak (by simp)) ?_;rintro k ⟨hk,hall⟩;by_cases ck:k<l.length
 ·have wk:=jq k;have hsk:=h _ (List.getElem_mem ck);have hgd:l.getD k []=l[k]:=by rw[pR,kq ck];rfl
  have bad:s6 l k=false->qd l=false:=fun e=>by
   have:(List.range l.length).all (s6 l)=false:=List.all_eq_false.2 ⟨k,List.mem_range.2 ck,by simp[e]⟩;unfold qd;rw[this];rfl
  have go:s6 l k=true->(k+1<=l.length/\∀i,i<k+1->s6 l i=true):=fun e=>⟨by omega,fun i hi=>by
   rcases Nat.lt_succ_iff_lt_or_eq.1 hi with hi|rfl
   ·exact hall i hi
   ·exact e⟩
  unfold s6 at bad go;rw[hgd]at bad go;obtain⟨s,hs⟩:∃s,l[k]=s:=⟨_,rfl⟩;rw[hs]at hsk bad go;simp[ck,hs];refine bS (B4 s hsk) ?_;rw[show(decide (s≠[])&&s.all qn)=C_ s from rfl];cases c1:C_ s with
  |false=>
   rw[bad (by rw[c1];rfl)];simp[results140]
  |true=>
   simp;refine bS (RJ s hsk) ?_;by_cases c2:oQ s=s
   ·cases k with
    |zero=>
     have g:=go (by rw[c1,c2];simp);simp[c2,bne];exact⟨1,g,by omega,ak (by simp[aD (n:=1)])⟩
    |succ j=>
     have wj:IntKind.i64.wrap (j:Int)=(j:Int):=aD;have hj:j<l.length:=by omega
     have hgj:l.getD j []=l[j]:=by rw[pR,kq hj];rfl
     rw[show j+1-1=j from rfl,hgj]at bad go;have p1:(0:Int)<(j:Int)+1:=by omega
     cases c3:Op.bytesLess l[j] s with
     |true=>
      have g:=go (by rw[c1,c2,c3];simp);simp[c2,bne,wj,hj,p1,c3];exact⟨j+1+1,g,by omega,ak (by simp[aD (n:=(j:Int)+1+1)])⟩
     |false=>
      rw[bad (by rw[c1,c2,c3];simp)];simp[c2,bne,wj,hj,p1,c3,results140]
   ·have dM:(oQ s==s)=false:=by simpa using c2
    rw[bad (by rw[c1,dM];simp)];simp[dM,bne,results140]
 ·obtain rfl:k=l.length:=by omega
  have hal:(List.range l.length).all (s6 l)=true:=List.all_eq_true.2 (fun i hi=>hall i (List.mem_range.1 hi));unfold qd;rw[hal];by_cases c1:l.length<=128
  ·have iP:(l.length:Int)<=128:=by omega
   simp[c1,iP,results140]
  ·have iP:¬(l.length:Int)<=128:=by omega
   simp[c1,iP,results140]
end Go.Av
namespace Go.aT
open Go.Av
structure cZ where
 uri:List UInt8
 names:List (List UInt8)
 var:List UInt8
 st:Jt
 fields:List Go.Av.Fd
 asked:Int
 got:Int
 order:Int
 size:Int
 sum:Nat
 body:List (Int×Int)
def cZ.s7(e:cZ):Bool:=decide (e.uri≠[])&&(decide (e.uri.length<=100)&&(!(decide (0<=uK e.uri 10))&&decide ((e.uri++10::e.var).length<=100)))
def cZ.qc(e:cZ):Bool:=(!(e.st.st==0))&&(Jd e.st&&((uR e.fields==0)&&qd e.names))
def cZ.uS(e:cZ):Bool:=rL e.asked 1099511627776&&(rL e.got 1099511627776&&(rL e.order 1152921504606846975&&rL e.size 1048576))
def cZ.right(e:cZ):Bool:=e.s7&&(e.qc&&(e.uS&&iY e.body e.size))
structure cZ.OkB(e:cZ):Prop where
 uri:e.uri.length<=140737488351232
 var:e.var.length<=140737488351232
 m:e.st.m.length<=140737488351232
 t:e.st.t.length<=140737488351232
 r:e.st.r.length<=140737488351232
 fl:e.fields.length<=1000000000000
 fs:nC e.fields<=40000000000000000
 ff:∀f∈e.fields,f.1.length<=140737488351232/\f.2.length<=140737488351232
 nl:e.names.length<=1000000
 ns:∀s∈e.names,s.length<=140737488351232
 bl:e.body.length<=1000000
structure cZ.Ok(e:cZ):Prop where
 uri:e.uri.length<=1000000000
 var:e.var.length<=1000000000
 m:e.st.m.length<=1000000000
 t:e.st.t.length<=1000000000
 r:e.st.r.length<=1000000000
 fl:e.fields.length<=1000000000
 fs:nC e.fields<=1000000000
 ff:∀f∈e.fields,f.1.length<=1000000000/\f.2.length<=1000000000
 nl:e.names.length<=1000000
 ns:∀s∈e.names,s.length<=1000000000
 bl:e.body.length<=1000000
 sum:e.sum<4294967296
theorem cZ.Ok.big{e:cZ}(h:e.Ok):e.OkB:=⟨by have:=h.uri;omega,by have:=h.var;omega,by have:=h.m;omega,by have:=h.t;omega,by have:=h.r;omega,by have:=h.fl;omega,by have:=h.fs;omega,fun f hf=>by have:=h.ff f hf;omega,h.nl,fun s hs=>by have:=h.ns s hs;omega,h.bl⟩
end Go.aT
namespace Go.Av
open Go.Proofs Go.Proofs.Tryz Go.aT
abbrev dI(e:cZ):PC:= .agg false [.str e.uri,.sl (e.names.map PC.str),.str e.var,.str e.st.m,.str e.st.t,.int e.st.st,.str e.st.r,.int e.st.mi,.sl (e.fields.map nX),.int e.asked,.int e.got,.int e.order,.int e.size,nj e.sum,.sl (e.body.map kG)]
theorem yR(e:cZ)(h:e.OkB):aq prog 54 [dI e] (.bool e.right):=by
 refine DV (ys:=[_]) [] [] [] func54 rfl (by kernel_rfl) (by kernel_rfl) (by simp[ntmps54]) rfl ?_;refine bM mixed (fun _:Unit=>True) (fun _=>[(1,.p (.ref (dI e)))]) (fun _=>⟨[],[],0⟩) ?_ (fun _ _=>?_)
 ·simp;exact ak (by simp)
 refine bM mixed (fun _:Unit=>True) (fun _=>[(1,.p (.ref (dI e))),(3,.p (.bool e.s7))]) (fun _=>⟨[],[],0⟩) ?_ (fun _ _=>?_)
 ·have hC:=DC e.uri 10;have hK:=Dk e.uri e.var h.uri h.var;have rQ:(e.uri++10::e.var).length=e.uri.length+(e.var.length+1):=by simp
  have DH:e.s7=(decide (e.uri≠[])&&(decide (e.uri.length<=100)&&(!(decide (0<=uK e.uri 10))&&decide ((e.uri++10::e.var).length<=100)))):=rfl;generalize e.s7=B at DH⊢;generalize(e.uri++10::e.var)=K at hK DH rQ;by_cases c1:e.uri=[]
  ·have hB:B=false:=by rw[DH];simp[c1]
   simp[c1,bne,hB];exact ak (by simp)
  have iP:(e.uri==[])=false:=by simpa using c1
  by_cases c2:e.uri.length<=100
  ·have dM:(e.uri.length:Int)<=100:=by omega
   simp[iP,bne,dM];refine bS hC ?_;by_cases c3:0<=uK e.uri 10
   ·have hB:B=false:=by rw[DH];simp[c3]
    simp[c3,hB];exact ak (by simp)
   ·simp[c3];refine bS hK ?_;by_cases c4:K.length<=100
    ·have kT:(K.length:Int)<=100:=by omega
     have hB:B=true:=by rw[DH];simp[c1,c2,c3,c4]
     simp[kT,hB];exact ak (by simp)
    ·have kT:¬(K.length:Int)<=100:=by omega
     have hB:B=false:=by rw[DH];simp[c4]
     simp[kT,hB];exact ak (by simp)
  ·have dM:¬(e.uri.length:Int)<=100:=by omega
   have hB:B=false:=by rw[DH];simp[c2]
   simp[iP,bne,dM,hB];exact ak (by simp)
 refine bM mixed (fun _:Unit=>True) (fun _=>[(1,.p (.ref (dI e))),(3,.p (.bool e.s7)),(4,.p (.bool e.qc))]) (fun _=>⟨[],[],0⟩) ?_ (fun _ _=>?_)
 ·have hS:=ML e.st h.m h.t h.r;have hF:=MP e.fields h.fl h.fs h.ff;have hN:=Nn e.names h.nl h.ns;have hh:e.qc=(!(e.st.st==0)&&(Jd e.st&&((uR e.fields==0)&&qd e.names))):=rfl;generalize e.qc=B at hh⊢;generalize e.s7=U at*;generalize Jd e.st=s1 at hS hh;generalize(uR e.fields==0)=s2 at hF hh;generalize qd e.names=s3 at hN hh;cases c1:(e.st.st==0)with
  |true=>
   have hB:B=false:=by rw[hh,c1];rfl
   simp[c1,bne,hB];exact ak (by simp)
  |false=>
   simp[c1,bne];refine bS hS ?_;cases s1 with
   |false=>
    have hB:B=false:=by rw[hh];simp
    simp[hB];exact ak (by simp)
   |true=>
    simp;refine bS hF ?_;cases s2 with
    |false=>
     have hB:B=false:=by rw[hh];simp
     simp[hB];exact ak (by simp)
    |true=>
     simp;refine bS hN ?_;have hB:B=s3:=by rw[hh,c1];simp
     simp[hB];exact ak (by simp)
 refine bM mixed (fun _:Unit=>True) (fun _=>[(1,.p (.ref (dI e))),(3,.p (.bool e.s7)),(4,.p (.bool e.qc)),(5,.p (.bool e.uS))]) (fun _=>⟨[],[],0⟩) ?_ (fun _ _=>?_)
 ·have h1:=DB e.asked 1099511627776;have h2:=DB e.got 1099511627776;have h3:=DB e.order 1152921504606846975;have h4:=DB e.size 1048576;have hh:e.uS=(rL e.asked 1099511627776&&(rL e.got 1099511627776&&(rL e.order 1152921504606846975&&rL e.size 1048576))):=rfl;generalize e.uS=B at hh⊢;generalize e.s7=U at*;generalize e.qc=V at*;generalize rL e.asked 1099511627776=s1 at h1 hh;generalize rL e.got 1099511627776=s2 at h2 hh;generalize rL e.order 1152921504606846975=s3 at h3 hh;generalize rL e.size 1048576=s4 at h4 hh;simp;refine bS h1 ?_;cases s1 with
  |false=>
   have hB:B=false:=by rw[hh];simp
   simp[hB];exact ak (by simp)
  |true=>
   simp;refine bS h2 ?_;cases s2 with
   |false=>
    have hB:B=false:=by rw[hh];simp
    simp[hB];exact ak (by simp)
   |true=>
    simp;refine bS h3 ?_;cases s3 with
    |false=>
     have hB:B=false:=by rw[hh];simp
     simp[hB];exact ak (by simp)
    |true=>
     simp;refine bS h4 ?_;have hB:B=s4:=by rw[hh];simp
     simp[hB];exact ak (by simp)
 refine iH mixed ?_;have hs:e.uS=true->e.size<=1000000000:=by
  intro hn;unfold cZ.uS rL at hn;simp at hn;omega
 have hh:e.right=(e.s7&&(e.qc&&(e.uS&&iY e.body e.size))):=rfl;generalize e.right=R at hh⊢;generalize e.s7=U at*;generalize e.qc=V at*;generalize e.uS=W at*;cases U with
 |false=>
  have hB:R=false:=by rw[hh];simp
  simp[hB,results54]
 |true=>
  cases V with
  |false=>
   have hB:R=false:=by rw[hh];simp
   simp[hB,results54]
  |true=>
   cases W with
   |false=>
    have hB:R=false:=by rw[hh];simp
    simp[hB,results54]
   |true=>
    have hP:=JV e.body e.size h.bl (hs rfl);have hB:R=iY e.body e.size:=by rw[hh];simp
    rw[<-hB]at hP;simp;refine bS hP ?_;simp[results54]
theorem xG(e:cZ)(h:e.Ok):aq prog 54 [dI e] (.bool e.right):=yR e h.big
@[reducible]def Ae(r:Nat)(b:List UInt8):Ob:=⟨408,1,[.view r 0 b.length 1 none]⟩
theorem ew(b:List UInt8)(hb:b.length<=1000000000)(n:Int)(size:Nat)(hs:size<=8):aE prog 309 [.obj 0 0,.p (.int n),.p (.int size)] ⟨[(0,Ae 1 b),(1,eG b)],[],2⟩ (.agg true []) ⟨[(0,Ae 2 (b++aC n size)),(2,eG (b++aC n size))],[],3⟩:=by
 have hl:=aW n size;refine ah (rs:=[]) [] [(3,[(4,.r 1),(11,.w []),(14,.s 1 [])])] [(1,0)] func309 rfl ?_;have w0:IntKind.i64.wrap ((size:Int)-1)=(size:Int)-1:=aD;simp[w0];refine aL (fun k:Nat=>k<=size) (fun k=>[(0,.obj 0 0),(1,.p (.int n)),(6,.p (.int ((size:Int)-1-k)))]) (fun k=>⟨[(0,Ae 2 (b++(aC n size).take k)),(2,eG (b++(aC n size).take k))],[],3⟩) (fun k=>size-k) 0 (by simp) _ (AS.le_refl _ _) (aB [(2,1)] (by simp)) ?_;intro k hk;by_cases ck:k<size
 ·have c1:(k:Int)<=(size:Int)-1:=by omega
  have w1:IntKind.i64.wrap ((size:Int)-1-k-1)=(size:Int)-1-((k+1:Nat):Int):=by rw[aD];omega
  have w2:IntKind.i64.wrap (8*((size:Int)-1-k))=8*((size:Int)-1-k):=aD;have w3:IntKind.u8.wrap (n.fdiv (2^min (8*((size:Int)-1-k)).toNat IntKind.i64.bits))=((wF (n/2^(8*(size-1-k)))).toNat:Int):=by
   have e:min (8*((size:Int)-1-k)).toNat IntKind.i64.bits=8*(size-1-k):=by
    have e2:IntKind.i64.bits=64:=rfl;rw[e2];omega
   rw[e,Int.fdiv_eq_ediv_of_nonneg _ (Int.le_of_lt (Int.pow_pos (by omega))),mX]
  have hts:=zb n size k ck;have hlk:(b++(aC n size).take k).length=b.length+k:=by simp;omega
  have XD:List.take (b.length+k) (List.map AV.p (af (b++List.take k (aC n size))))=List.map AV.p (af (b++List.take k (aC n size))):=fY (by simp[af];omega);have hmn:min k (aC n size).length=k:=by omega
  simp[c1,w1,w2,w3,XD,hlk];refine⟨by omega,by omega,by omega,k+1,by omega,by omega,aB [(2,3)] ?_⟩;rw[hts];simp[af,Nat.add_assoc,hmn]
 ·obtain rfl:k=size:=by omega
  have c1:¬(k:Int)<=(k:Int)-1:=by omega
  have ht:(aC n k).take k=aC n k:=fY (by omega);simp[c1,results309,ht];exact⟨[],by simp⟩
def aY(l:List (List UInt8)):List UInt8:=l.flatMap fun s=>aC s.length 2++s
theorem EG(l:List (List UInt8))(k:Nat):(aY (l.take k)).length<=(aY l).length:=by
 have h:aY l=aY (l.take k)++aY (l.drop k):=by unfold aY;rw[<-List.flatMap_append,List.take_append_drop]
 rw[h,dU];omega
theorem u6(b:List UInt8)(l:List (List UInt8))(hl:l.length<=1000000)(hb:b.length+(aY l).length<=1000000000):aE prog 310 [.obj 0 0,.p (.sl (l.map PC.str))] ⟨[(0,Ae 1 b),(1,eG b)],[],2⟩ (.agg true []) ⟨[(0,Ae 2 (b++aY l)),(2,eG (b++aY l))],[],3⟩:=by
 refine ah (rs:=[]) [] [(4,[(4,.r 1),(6,.w []),(9,.s 1 [])])] [(1,0)] func310 rfl ?_;simp;refine aL (fun k:Nat=>k<=l.length) (fun k=>[(0,.obj 0 0),(6,.p (.sl (l.map PC.str))),(7,.p (.int l.length)),(8,.p (.int k))]) (fun k=>⟨[(0,Ae 2 (b++aY (l.take k))),(2,eG (b++aY (l.take k)))],[],3⟩) (fun k=>l.length-k) 0 (by simp) _ (AS.le_refl _ _) (aB [(2,1)] (by simp[aY])) ?_;intro k hk;by_cases ck:k<l.length
 ·have wk:=jq k;obtain⟨s,hs⟩:∃s,l[k]=s:=⟨_,rfl⟩;have hts:aY (l.take (k+1))=aY (l.take k)++(aC s.length 2++s):=by rw[iA ck,hs];simp[aY]
  have hle:=EG l (k+1);obtain⟨B,hB⟩:∃B,b++aY (l.take k)=B:=⟨_,rfl⟩;have hBl:B.length<=1000000000:=by have:=EG l k;rw[<-hB,dU];omega
  have hN:=ew B hBl s.length 2 (by omega);have h2:=aW s.length 2;have SM:B.length+2+s.length<=1000000000:=by rw[hts]at hle;simp only[dU]at hle;rw[<-hB,dU];omega
  have hnew:b++aY (l.take (k+1))=B++aC s.length 2++s:=by rw[hts,<-hB];simp
  have Xh:(B++aC s.length 2).length=B.length+2:=by rw[dU,h2]
  rw[hB];simp[ck,hs];refine Da [0,2] hN ?_;generalize hX:B++aC s.length 2=X at Xh hnew;simp[wk,Xh];have XD:List.take (B.length+2) (List.map AV.p (af X))=List.map AV.p (af X):=fY (by simp[af];omega);refine⟨by omega,by omega,k+1,by omega,by omega,aB [(2,4)] ?_⟩;have hl4:(X++s).length=B.length+2+s.length:=by rw[dU,Xh]
  rw[hnew,XD];simp[hl4];simp[af]
 ·obtain rfl:k=l.length:=by omega
  rw[List.take_length];simp[results310];exact⟨[],by simp⟩
end Go.Av
