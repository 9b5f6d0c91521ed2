/- TiersAgain, part 14: what functions compute, and its plain law; no condition. -/
import Derived.Test.YtgkdpbambfgahaaGreatDoorWam
set_option linter.all false
set_option maxRecDepth 100000
set_option maxHeartbeats 64000000
namespace Go.Av
open Go.Proofs Go.Proofs.Tryz
def V6{l:List PC}(h:∀x∈l,fM x=[x]):l.flatMap fM=l:=by
 induction l with
 |nil=>rfl
 |cons x l ih=>rw[cU,h x H,ih λy hy=>h y (by simp[hy])];rfl
def V7(l:aF)(hl:l.length<=140737488351232):cq 396 [.str l,.ref (.agg false zu)] (.str (rR l)):=by
 refine ay [_] func396 rfl ?_;simp;obtain⟨r,hr⟩:=mH (rR l);rw[<-hr];refine bI (λk:Nat=>k<=l.length/\r=rR (l.take k)) (λk=>[(0,.p (.str (l.take k))),(1,.p (.ref (.agg false zu)))]) (λk=>k) l.length (by simp[hr]) (aB H) ?_;rintro k ⟨h1,h2⟩;have hm:min k l.length=k:=eS h1;cases k with
 |zero=>rw[h2];simp[results396,rR]
 |succ k=>
  have hk:k<l.length:=O;have hd:(0:Int)<((k:Int)+1):=O;have w1:IntKind.i64.wrap (k:Int)=(k:Int):=aG;have hsp:l.take (k+1)=l.take k++[l[k]]:=kG hk;have hb:=LV (l.take k) l[k];rw[<-hsp,<-h2]at hb;simp[hm,hd,w1];refine cm (Ad l[k]) ?_;cases hz:blO l[k]with
  |false=>
   rw[hz]at hb;simp at hb;simp[hb,results396]
  |true=>
   rw[hz]at hb;simp at hb;simp[hm,w1];refine⟨k,⟨O,hb⟩,O,aB ?_⟩;simp[qY]
   try omega
def V8{bx:List (Nat×Ob)}{k:Nat}(x:PC):dA bx (k+1) (.p x) x:=by
 unfold dA;exact⟨x,rfl,.inl rfl⟩
theorem V9{bx:List (Nat×Ob)}{k:Nat}:∀l:List PC,j_ (dA bx (k+1)) (l.map .p) l
 |[]=>trivial
 |x::l=>⟨V8 x,V9 l⟩
def V_:zu.length=256:=by simp[zu]
def f256:List PC:=List.replicate 256 (.sc (.bool false))
def Jl:f256.length=256:=List.length_replicate
def V':bX prog 474=some f256:=bp
def QJ:(f256.map AV.p).drop 256=[]:=gM (by rw[pe,Jl];exact aX _)
def aaZ(l:aF)(hl:l.length<=140737488351232):cq 379 [.str l,.str [32,9]] (.str (Jm l)):=by
 refine ay [_] func379 rfl ?_;by_cases h:l=[]
 .subst h;simp[results379,Jm,rR,Da]
 .have hd:(l==[])=false:=U h;simp[hd];refine cm LW ?_;simp[V',Jl,V_,QJ];have bo:∀k:Nat,dA [(0,({el:=474,sz:=256,xs:=zu.map AV.p}:Ob))] (k+2) (.obj 0 0) (.ref (.agg false zu)):=λk=>by
   refine⟨_,rfl,H,?_⟩;simp only[jx];have e:(zu.map AV.p).take zu.length=zu.map AV.p:=gv H;rw[e];exact V9 _
  refine bZ (V7 l hl) ⟨V8 _,bo _,trivial⟩ rfl ?_;simp;refine bZ (Wa (rR l) (cT (Wb l) hl)) ⟨V8 _,bo _,trivial⟩ rfl ?_;simp[Jm,results379]
def agO(l:aF)(hl:l.length<=140737488351232):cq 350 [.str l] (.str (Jm l)):=by
 refine ay [_] func350 rfl ?_;simp;refine cm (aaZ l hl) ?_;simp[results350]
def Tq(l:aF):Bool:=l.all Uu&&(Jm l==l)
def MN(l:aF)(hl:l.length<=140737488351232):cq 295 [.str l] (.bool (Tq l)):=by
 refine ay [_] func295 rfl ?_;simp;refine cm (acu Uu l hl Zp) ?_;unfold Tq;cases l.all Uu with
 |false=>simp[results295]
 |true=>
  simp;refine cm (agO l hl) ?_;simp[results295]
def zw(c:UInt8):UInt8:=if 65<=c.toNat/\c.toNat<=90 then c+32 else c
def H_(l:aF):aF:=l.map zw
abbrev Wc(l:aF):Ob:=⟨1000005,1,(af l).map .p⟩
def r8(l:aF)(k:Nat):aF:=(l.take k).map zw++l.drop k
def ER{n:Int}(h0:0<=n)(h1:n<=255):IntKind.u8.wrap n=n:=by
 have e1:IntKind.u8.bits=8:=rfl;simp[IntKind.wrap,e1]
 try (have e2:IntKind.u8.signed=false:=rfl)
 try simp[e2]
 omega
def Wg(l:aF)(k:Nat):(r8 l k).length=l.length:=by simp[r8];omega
def aa0(l:aF)(k:Nat)(h:k<l.length):(r8 l k)[k]?=some l[k]:=by
 unfold r8;rw[List.getElem?_append_right (by simp;omega)];simp[eS (Nat.le_of_lt h),h]
def Wh(l:aF)(k:Nat)(h:k<l.length):(r8 l k).set k (zw l[k])=r8 l (k+1):=by
 unfold r8;rw[List.set_append_right _ _ (by simp;omega)];have e:((l.take k).map zw).length=k:=by simp;omega
 rw[e,Nat.sub_self,eK h,List.set_cons_zero,kG h,jB,cW];rfl
def Wi(c:UInt8)(h1:65<=c.toNat)(h2:c.toNat<=90):(zw c).toNat=c.toNat+32:=by
 unfold zw;rw[ai ⟨h1,h2⟩,UInt8.toNat_add];have:(32:UInt8).toNat=32:=rfl;rw[this];omega
def aa1{bx:List (Nat×Ob)}{k id n:Nat}{c:Option Nat}{L M:aF}(hn:n=L.length)(h:lk id bx=some (Wc (L++M))):dA bx (k+1) (.view id 0 n 1 c) (.sl (af L)):=by
 refine⟨_,h,O,by simp[hn],by simp[hn],?_,?_,?_⟩
 .rw[vT,V6 (λx hx=>by simp only[af,bE]at hx;obtain⟨_,_,rfl⟩:=hx;rfl)];subst hn;simp[af]
  try (rw[vi H];exact gv H)
 .intro y hy;simp only[af,bE]at hy;obtain⟨e,_,rfl⟩:=hy;rfl
 .intro y hy;simp only[af,bE]at hy;obtain⟨e,_,rfl⟩:=hy;rfl
def Y3(l:aF)(hl:l.length<=140737488351232):cq 221 [.str l] (.str (H_ l)):=by
 refine dK [_] [7] [] [] func221 rfl ?_;simp;refine⟨O,?_⟩;refine aS (λk:Nat=>k<=l.length) (λk=>[(3,.view 0 0 l.length 1 none),(8,.view 0 0 l.length 1 none),(9,.p (.int l.length)),(10,.p (.int k))]) (λk=>⟨[(0,Wc (r8 l k))],[],1⟩) (λk=>l.length-k) 0 H _ (AS.le_refl _ _) (aB (by simp[r8])) ?_;rintro k h1;have hlen:=Wg l k;by_cases c:k<l.length
 .have eM:=aa0 l k c;have hg:(r8 l k)[k]'O=l[k]:=by
   have:=n_ (l:=r8 l k) (i:=k) O;rw[eM]at this;injection this with this;exact this.symm
  have hs:=Wh l k c;have hrow:∀v:UInt8,((af (r8 l k)).map AV.p).take k++AV.p (sS v)::((af (r8 l k)).map AV.p).drop (k+1)=(af ((r8 l k).set k v)).map AV.p:=λv=>by
   rw[<-fG,<-jG];simp only[af,<-fG,<-jG];rw[BX,ai O];simp
  have hsame:zw l[k]=l[k]->r8 l (k+1)=r8 l k:=λe=>by
   rw[<-hs,e,<-hg];exact List.set_getElem_self _
  by_cases a1:65<=l[k].toNat
  .have b1:(65:Int)<=(l[k].toNat:Int):=O;by_cases a2:l[k].toNat<=90
   .have b2:(l[k].toNat:Int)<=90:=O;have w1:IntKind.u8.wrap ((l[k].toNat:Int)+97)=(l[k].toNat:Int)+97:=ER O O;have w2:IntKind.u8.wrap ((l[k].toNat:Int)+97-65)=((zw l[k]).toNat:Int):=by
     rw[ER O O,Wi _ a1 a2];omega
    simp[c,hlen,eX,hg,b1,b2,w1,w2];refine⟨O,k+1,O,O,aB ?_⟩;simp[aG (n:=(k:Int)+1)];rw[<-hs];have hr:=hrow (zw l[k]);unfold sS at hr;rw[hr];exact List.prefix_refl _
   .have b2:¬(l[k].toNat:Int)<=90:=O;have hl':zw l[k]=l[k]:=by unfold zw;rw[ah O]
    simp[c,hlen,eX,hg,b1,b2];refine⟨k+1,O,O,aB ?_⟩;simp[aG (n:=(k:Int)+1),hsame hl']
  .have b1:¬(65:Int)<=(l[k].toNat:Int):=O;have hl':zw l[k]=l[k]:=by unfold zw;rw[ah O]
   simp[c,hlen,eX,hg,b1];refine⟨k+1,O,O,aB ?_⟩;simp[aG (n:=(k:Int)+1),hsame hl']
 .obtain rfl:k=l.length:=O;simp;have hM:r8 l l.length=H_ l:=by simp[r8,H_]
  refine alu (H_ l) H H ?_ ?_
  .rw[hM];exact aa1 (M:=[]) (by simp[H_]) (by simp[lk])
  .simp[results221]
structure XA where
 m:aF
 t:aF
 st:Int
 r:aF
 mi:Int
def Uh:XA:=⟨[],[],0,[],0⟩
abbrev stP(s:XA):PC:= .agg false [.str s.m,.str s.t,.int s.st,.str s.r,.int s.mi]
def YI(l:aF):Bool:=decide (l≠[])&&l.all HW
def MK(s:XA):Bool:=YI s.m&&(decide (s.m.length<=32)&&(Lh s.t&&(decide (s.t.length<=8000)&&(decide (s.st=0)&&(s.r==[])))))
def ML(s:XA):Bool:=(s.m==[])&&((s.t==[])&&(decide (100<=s.st)&&(decide (s.st<=999)&&(Tq s.r&&decide (s.r.length<=200)))))
def aez(s:XA)(hm:s.m.length<=140737488351232)(ht:s.t.length<=140737488351232):cq 217 [stP s] (.bool (MK s)):=by
 refine ay [_] func217 rfl ?_;obtain⟨m,t,st,r,mi⟩:=s;simp only at hm ht;simp only[stP,MK];simp;refine cm (FP m hm) ?_;rw[show(decide (m≠[])&&m.all HW)=YI m from rfl];cases h1:YI m with
 |false=>simp[results217]
 |true=>
 by_cases h2:m.length<=32
 case neg=>
  have d2:¬(m.length:Int)<=32:=O;simp[h2,d2,results217]
 have d2:(m.length:Int)<=32:=O;simp[h2,d2];refine cm (PG t ht) ?_;cases h3:Lh t with
 |false=>simp[results217]
 |true=>
 by_cases h4:t.length<=8000
 case neg=>
  have d4:¬(t.length:Int)<=8000:=O;simp[h4,d4,results217]
 have d4:(t.length:Int)<=8000:=O;by_cases h5:st=0
 case neg=>
  have d5:(st==0)=false:=U h5;simp[h4,d4,h5,d5,results217]
 subst h5;simp[h4,d4,results217]
def Ph(s:XA)(hr:s.r.length<=140737488351232):cq 218 [stP s] (.bool (ML s)):=by
 refine ay [_] func218 rfl ?_;obtain⟨m,t,st,r,mi⟩:=s;simp only at hr;simp only[stP,ML];simp;by_cases h1:m=[]
 case neg=>
  have d1:m.isEmpty=false:=U h1;simp[d1,results218]
 subst h1;by_cases h2:t=[]
 case neg=>
  have d1:t.isEmpty=false:=U h2;simp[d1,results218]
 subst h2;by_cases h3:100<=st
 case neg=>simp[h3,results218]
 by_cases h4:st<=999
 case neg=>simp[h3,h4,results218]
 simp[h3,h4];refine cm (MN r hr) ?_;cases h5:Tq r with
 |false=>simp[results218]
 |true=>
 by_cases h6:r.length<=200
 .have d6:(r.length:Int)<=200:=O;simp[h6,d6,results218]
 .have d6:¬(r.length:Int)<=200:=O;simp[h6,d6,results218]
end Go.Av
namespace Go.aL
open Go.Av
def Pf(f:Go.Av.Fd):Bool:=YI f.1&&Tq f.2
def AG(fs:List Go.Av.Fd):Nat:=(fs.map λf=>f.1.length+f.2.length+4).sum+2
def Pg(fs:List Go.Av.Fd):Int:=if fs.any (λf=>!Pf f)=true then 10 else if 128<fs.length then 13 else if 65536<AG fs then 12 else 0
def wK(n m:Int):Bool:=decide (0<=n)&&decide (n<=m)
def Tr(n:Int):Int:=if n<1 then 0 else(n-1)/64+1
end Go.aL
namespace Go.Av
open Go.Proofs Go.Proofs.Tryz Go.aL
def Tt(s:XA):Bool:=(decide (s.mi=0)||decide (s.mi=1))&&(MK s||ML s)
def Tv(s:XA)(hm:s.m.length<=140737488351232)(ht:s.t.length<=140737488351232)(hr:s.r.length<=140737488351232):cq 138 [stP s] (.bool (Tt s)):=by
 refine ay [_] func138 rfl ?_;unfold Tt;have hA:=aez s hm ht;have hB:=Ph s hr;generalize MK s=A at*;generalize ML s=B at*;obtain⟨m,t,st,r,mi⟩:=s;simp only[stP]at hA hB⊢;by_cases c1:mi=0
 .subst c1;simp;refine cm hA ?_;cases A with
  |true=>simp[results138]
  |false=>
   simp;refine cm hB ?_;simp[results138]
 have d1:(mi==0)=false:=U c1;by_cases c2:mi=1
 .subst c2;simp;refine cm hA ?_;cases A with
  |true=>simp[results138]
  |false=>
   simp;refine cm hB ?_;simp[results138]
 have d2:(mi==1)=false:=U c2;simp[c1,c2,d1,d2,results138]
def Pj(f:Go.Av.Fd)(h1:f.1.length<=140737488351232)(h2:f.2.length<=140737488351232):cq 298 [oL f] (.bool (Pf f)):=by
 refine ay [_] func298 rfl ?_;simp;refine cm (FP f.1 h1) ?_;rw[show(decide (f.1≠[])&&f.1.all HW)=YI f.1 from rfl];unfold Pf;cases YI f.1 with
 |false=>simp[results298]
 |true=>
  simp;refine cm (MN f.2 h2) ?_;simp[results298]
def YJ(f:Go.Av.Fd)(h1:f.1.length<=140737488351232)(h2:f.2.length<=140737488351232):cq 297 [oL f] (.bool (!Pf f)):=by
 refine ay [_] func297 rfl ?_;simp;refine cm (Pj f h1 h2) ?_;simp[results297]
def HX(n m:Int):cq 141 [.int n,.int m] (.bool (wK n m)):=by
 refine ay [_] func141 rfl ?_;unfold wK;by_cases c:0<=n
 .simp[c,results141]
 .simp[c,results141]
def KX(n:Int)(h:n<=1000000000):cq 222 [.int n] (.int (Tr n)):=by
 refine ay [_] func222 rfl ?_;unfold Tr;by_cases c:n<1
 .simp[c,results222]
 .have w1:IntKind.i64.wrap (n-1)=n-1:=aG;have w2:IntKind.i64.wrap ((n-1)/64)=(n-1)/64:=aG;have w3:IntKind.i64.wrap ((n-1)/64+1)=(n-1)/64+1:=aG;have w4:(n-1).tdiv 64=(n-1)/64:=FQ O;simp[c,w1,w4,w2,w3,results222]
def HY(a b:aF)(ha:a.length<=140737488351232)(hb:b.length<=140737488351232):cq 64 [.str a,.str b] (.str (a++10::b)):=by
 refine ay [_] func64 rfl ?_;simp[results64];omega
def HZ(a:aF)(c:UInt8):cq 137 [.str a,.str [c]] (.bool (decide (0<=Pk a c))):=by
 refine ay [_] func137 rfl ?_;simp;refine cm (Tw a c) ?_;simp[results137]
def Tx(l:List Go.Av.Fd)(f:Go.Av.Fd):AG (l++[f])=AG l+(f.1.length+f.2.length+4):=by simp[AG];omega
def Tz(l:List Go.Av.Fd)(k:Nat):AG (l.take k)<=AG l:=by
 have h:l.map (λf=>f.1.length+f.2.length+4)=(l.take k).map (λf=>f.1.length+f.2.length+4)++(l.drop k).map (λf=>f.1.length+f.2.length+4):=by rw[<-jB,eO]
 unfold AG;rw[h,List.sum_append];omega
def TA(l:List Go.Av.Fd)(hl:l.length<=1000000000000)(hs:AG l<=40000000000000000):cq 299 [.sl (l.map oL)] (.int (AG l)):=by
 refine ay [_] func299 rfl ?_;simp;refine bI (λk:Nat=>k<=l.length) (λk=>[(6,.p (.sl (l.map oL))),(7,.p (.int l.length)),(8,.p (.int k)),(3,.p (.int (AG (l.take k))))]) (λk=>l.length-k) 0 H (aB (by simp[AG])) ?_;intro k hk;by_cases ck:k<l.length
 .have hts:AG (l.take (k+1))=AG (l.take k)+(l[k].1.length+l[k].2.length+4):=by rw[kG ck,Tx]
  have hle:=Tz l (k+1);have wk:=ju k;have w1:IntKind.i64.wrap ((l[k].1.length:Int)+l[k].2.length)=(l[k].1.length:Int)+l[k].2.length:=aG;have w2:IntKind.i64.wrap ((l[k].1.length:Int)+l[k].2.length+4)=(l[k].1.length:Int)+l[k].2.length+4:=aG;have w3:IntKind.i64.wrap ((AG (l.take k):Int)+((l[k].1.length:Int)+l[k].2.length+4))=(AG (l.take (k+1)):Int):=by rw[aG,hts];omega
  simp[ck,wk,w1,w2,w3];exact⟨k+1,O,O,aB H⟩
 .obtain rfl:k=l.length:=O;simp[results299]
def Pm(l:List Go.Av.Fd)(hl:l.length<=1000000000000)(hs:AG l<=40000000000000000)(hf:∀f∈l,f.1.length<=140737488351232/\f.2.length<=140737488351232):cq 219 [.sl (l.map oL)] (.int (Pg l)):=by
 have hA:=aeA 297 [] (λf=>!Pf f) l O (λx hx=>YJ x (hf x hx).1 (hf x hx).2);unfold Pg;generalize(l.any λf=>!Pf f)=B at hA⊢;refine ay [_] func219 rfl ?_;simp;refine cm hA ?_;cases B with
 |true=>simp[results219]
 |false=>
  by_cases c2:128<l.length
  .have eY:(128:Int)<l.length:=O;simp[c2,eY,results219]
  have eY:¬(128:Int)<l.length:=O;simp[c2,eY];refine cm (TA l hl O) ?_;by_cases c3:65536<AG l
  .have mg:(65536:Int)<AG l:=O;simp[c3,mg,results219]
  .have mg:¬(65536:Int)<AG l:=O;simp[c3,mg,results219]
def TB(l:List Go.Av.Fd)(hl:l.length<=1000000000000)(hs:AG l<=40000000000000000)(hf:∀f∈l,f.1.length<=140737488351232/\f.2.length<=140737488351232):cq 139 [.sl (l.map oL)] (.bool (Pg l==0)):=by
 refine ay [_] func139 rfl ?_;simp;refine cm (Pm l hl hs hf) ?_;simp[results139]
end Go.Av
namespace Go.aL
open Go.Av
def yA(e:Int×Int):Bool:=wK e.1 65536&&(decide (1<=e.2)&&decide (e.2<=65536-e.1))
def mq(l:eL):Int:=(l.map (·.2)).sum
def gF(l:eL)(size:Int):Bool:=l.all yA&&(decide (l.length<=8)&&(mq l==Tr size))
def ud(l:eL)(e:Int×Int):mq (l++[e])=mq l+e.2:=by simp[mq]
theorem Wj:∀(l:eL),(∀e∈l,yA e=true)->0<=mq l/\mq l<=65536*l.length
 |[],_=>by simp[mq]
 |e::l,h=>by
  have h1:=Wj l (λx hx=>h x (by simp[hx]));have h2:=h e H;unfold yA wK at h2;simp at h2;have:mq (e::l)=e.2+mq l:=by simp[mq]
  rw[this,cF];omega
end Go.aL
namespace Go.Av
open Go.Proofs Go.Proofs.Tryz Go.aL
abbrev dO(e:Int×Int):PC:= .agg false [.int e.1,.int e.2]
def PA(l:eL)(size:Int)(hl:l.length<=1000000)(hs:size<=1000000000):cq 142 [.sl (l.map dO),.int size] (.bool (gF l size)):=by
 refine ay [_] func142 rfl ?_;simp;refine bI (λk:Nat=>k<=l.length/\∀e∈l.take k,yA e=true) (λk=>[(0,.p (.sl (l.map dO))),(1,.p (.int size)),(8,.p (.sl (l.map dO))),(9,.p (.int l.length)),(10,.p (.int k)),(5,.p (.int (mq (l.take k))))]) (λk=>l.length-k) 0 ⟨H,H⟩ (aB (by simp[mq])) ?_;rintro k ⟨hk,hall⟩;by_cases ck:k<l.length
 .have hts:mq (l.take (k+1))=mq (l.take k)+l[k].2:=by rw[kG ck,ud]
  have hb:=Wj _ hall;have uk:(l.take k).length<=1000000:=by simp;omega
  have wk:=ju k;have hin:=HX l[k].1 65536;have hmem:l[k]∈l:=bB ck;have lF:l.take (k+1)=l.take k++[l[k]]:=by rw[kG ck]
  have bad:yA l[k]=false->gF l size=false:=λh=>by
   have:l.all yA=false:=Fg.2 ⟨_,hmem,by simp[h]⟩;unfold gF;rw[this];rfl
  generalize he:l[k]=e at hts hin bad lF;simp[ck,he];refine cm hin ?_;cases c1:wK e.1 65536 with
  |false=>
   rw[bad (by unfold yA;rw[c1];rfl)];simp[results142]
  |true=>
   have hr:0<=e.1/\e.1<=65536:=by unfold wK at c1;simpa using c1
   by_cases c2:e.2<1
   .rw[bad (by unfold yA;rw[c1];simp;omega)];simp[c2,results142]
   .have w1:IntKind.i64.wrap (65536-e.1)=65536-e.1:=aG;by_cases c3:65536-e.1<e.2
    .rw[bad (by unfold yA;rw[c1];simp;omega)];simp[c2,c3,w1,results142]
    .have ok:yA e=true:=by unfold yA;rw[c1];simp;omega
     have w2:IntKind.i64.wrap (mq (l.take k)+e.2)=mq (l.take (k+1)):=by rw[aG,hts]
     simp[c2,c3,w1,w2,wk];refine⟨k+1,⟨O,λx y hx=>?_⟩,O,aB H⟩;rw[lF]at hx;rcases lD.1 hx with hx|hx
     .exact hall _ hx
     .rw[gK.1 hx];exact ok
 .obtain rfl:k=l.length:=O;rw[eH]at hall;have hal:l.all yA=true:=gX.2 hall;unfold gF;rw[hal];by_cases c1:l.length<=8
  .have jR:(l.length:Int)<=8:=O;simp[c1,jR];refine cm (KX size hs) ?_;simp[results142]
  .have jR:¬(l.length:Int)<=8:=O;simp[c1,jR,results142]
end Go.Av
namespace Go.aL
open Go.Av
def H9(l:List (aF))(i:Nat):Bool:=YI (l.getD i [])&&((H_ (l.getD i [])==l.getD i [])&&(decide (i=0)||Op.bytesLess (l.getD (i-1) []) (l.getD i [])))
def vk(l:List (aF)):Bool:=(List.range l.length).all (H9 l)&&decide (l.length<=128)
end Go.aL
namespace Go.Av
open Go.Proofs Go.Proofs.Tryz Go.aL
def TW(l:List (aF))(hl:l.length<=1000000)(h:∀s∈l,s.length<=140737488351232):cq 140 [.sl (l.map PC.str)] (.bool (vk l)):=by
 refine ay [_] func140 rfl ?_;simp;refine bI (λk:Nat=>k<=l.length/\∀i,i<k->H9 l i=true) (λk=>[(0,.p (.sl (l.map PC.str))),(5,.p (.sl (l.map PC.str))),(6,.p (.int l.length)),(7,.p (.int k))]) (λk=>l.length-k) 0 ⟨H,by intro i hi;omega⟩ (aB H) ?_;rintro k ⟨hk,hall⟩;by_cases ck:k<l.length
 .have wk:=ju k;have hsk:=h _ (bB ck);have hgd:l.getD k []=l[k]:=by rw[u6,n_ ck];rfl
  have bad:H9 l k=false->vk l=false:=λe=>by
   have:(List.range l.length).all (H9 l)=false:=Fg.2 ⟨k,si.2 ck,by simp[e]⟩;unfold vk;rw[this];rfl
  have go:H9 l k=true->(k+1<=l.length/\∀i,i<k+1->H9 l i=true):=λe=>⟨O,λi hi=>by
   rcases Nat.lt_succ_iff_lt_or_eq.1 hi with hi|rfl
   .exact hall i hi
   .exact e⟩
  unfold H9 at bad go;rw[hgd]at bad go;generalize hs:l[k]=s at hsk bad go;simp[ck,hs];refine cm (FP s hsk) ?_;rw[show(decide (s≠[])&&s.all HW)=YI s from rfl];cases c1:YI s with
  |false=>
   rw[bad (by rw[c1];rfl)];simp[results140]
  |true=>
   simp;refine cm (Y3 s hsk) ?_;by_cases c2:H_ s=s
   .cases k with
    |zero=>
     have g:=go (by rw[c1,c2];simp);simp[c2,bne];exact⟨1,g,O,aB (by simp[aG (n:=1)])⟩
    |succ j=>
     have wj:IntKind.i64.wrap (j:Int)=(j:Int):=aG;have hj:j<l.length:=O;have hgj:l.getD j []=l[j]:=by rw[u6,n_ hj];rfl
     rw[show j+1-1=j from rfl,hgj]at bad go;have p1:(0:Int)<(j:Int)+1:=O;cases c3:Op.bytesLess l[j] s with
     |true=>
      have g:=go (by rw[c1,c2,c3];simp);simp[c2,bne,wj,hj,p1,c3];exact⟨j+1+1,g,O,aB (by simp[aG (n:=(j:Int)+1+1)])⟩
     |false=>
      rw[bad (by rw[c1,c2,c3];simp)];simp[c2,bne,wj,hj,p1,c3,results140]
   .have eY:(H_ s==s)=false:=U c2;rw[bad (by rw[c1,eY];simp)];simp[eY,bne,results140]
 .obtain rfl:k=l.length:=O;have hal:(List.range l.length).all (H9 l)=true:=gX.2 (λi hi=>hall i (si.1 hi));unfold vk;rw[hal];by_cases c1:l.length<=128
  .have jR:(l.length:Int)<=128:=O;simp[c1,jR,results140]
  .have jR:¬(l.length:Int)<=128:=O;simp[c1,jR,results140]
end Go.Av
namespace Go.aL
open Go.Av
structure cS where
 uri:aF
 names:List (aF)
 var:aF
 st:XA
 fields:List Go.Av.Fd
 asked:Int
 got:Int
 order:Int
 size:Int
 sum:Nat
 body:eL
def cS.yR(e:cS):Bool:=decide (e.uri≠[])&&(decide (e.uri.length<=100)&&(!(decide (0<=Pk e.uri 10))&&decide ((e.uri++10::e.var).length<=100)))
def cS.jg(e:cS):Bool:=(!(e.st.st==0))&&(Tt e.st&&((Pg e.fields==0)&&vk e.names))
def cS.DT(e:cS):Bool:=wK e.asked 1099511627776&&(wK e.got 1099511627776&&(wK e.order 1152921504606846975&&wK e.size 1048576))
def cS.right(e:cS):Bool:=e.yR&&(e.jg&&(e.DT&&gF e.body e.size))
structure cS.OkB(e:cS):Prop where
 uri:e.uri.length<=140737488351232
 var:e.var.length<=140737488351232
 m:e.st.m.length<=140737488351232
 t:e.st.t.length<=140737488351232
 r:e.st.r.length<=140737488351232
 fl:e.fields.length<=1000000000000
 fs:AG e.fields<=40000000000000000
 ff:∀f∈e.fields,f.1.length<=140737488351232/\f.2.length<=140737488351232
 nl:e.names.length<=1000000
 ns:∀s∈e.names,s.length<=140737488351232
 bl:e.body.length<=1000000
structure cS.Ok(e:cS):Prop where
 uri:e.uri.length<=1000000000
 var:e.var.length<=1000000000
 m:e.st.m.length<=1000000000
 t:e.st.t.length<=1000000000
 r:e.st.r.length<=1000000000
 fl:e.fields.length<=1000000000
 fs:AG e.fields<=1000000000
 ff:∀f∈e.fields,f.1.length<=1000000000/\f.2.length<=1000000000
 nl:e.names.length<=1000000
 ns:∀s∈e.names,s.length<=1000000000
 bl:e.body.length<=1000000
 sum:e.sum<4294967296
def cS.Ok.big{e:cS}(h:e.Ok):e.OkB:=⟨by have:=h.uri;omega,by have:=h.var;omega,by have:=h.m;omega,by have:=h.t;omega,by have:=h.r;omega,by have:=h.fl;omega,by have:=h.fs;omega,λf hf=>by have:=h.ff f hf;omega,h.nl,λs hs=>by have:=h.ns s hs;omega,h.bl⟩
end Go.aL
namespace Go.Av
open Go.Proofs Go.Proofs.Tryz Go.aL
abbrev fK(e:cS):PC:= .agg false [.str e.uri,.sl (e.names.map PC.str),.str e.var,.str e.st.m,.str e.st.t,.int e.st.st,.str e.st.r,.int e.st.mi,.sl (e.fields.map oL),.int e.asked,.int e.got,.int e.order,.int e.size,kR e.sum,.sl (e.body.map dO)]
def Ud(e:cS)(h:e.OkB):cq 54 [fK e] (.bool e.right):=by
 refine Ig (ys:=[_]) [] [] [] func54 rfl bp bp (by simp[ntmps54]) rfl ?_;refine iF mixed [(1,.p (.ref (fK e)))] ⟨[],[],0⟩ ?_ ?_
 .simp;exact aB H
 refine iF mixed [(1,.p (.ref (fK e))),(3,.p (.bool e.yR))] ⟨[],[],0⟩ ?_ ?_
 .have hC:=HZ e.uri 10;have hK:=HY e.uri e.var h.uri h.var;have ye:(e.uri++10::e.var).length=e.uri.length+(e.var.length+1):=H;have Lc:e.yR=(decide (e.uri≠[])&&(decide (e.uri.length<=100)&&(!(decide (0<=Pk e.uri 10))&&decide ((e.uri++10::e.var).length<=100)))):=rfl;generalize e.yR=B at Lc⊢;generalize(e.uri++10::e.var)=K at hK Lc ye;by_cases c1:e.uri=[]
  .have hB:B=false:=by rw[Lc];simp[c1]
   simp[c1,bne,hB];exact aB H
  have jR:(e.uri==[])=false:=U c1;by_cases c2:e.uri.length<=100
  .have eY:(e.uri.length:Int)<=100:=O;simp[jR,bne,eY];refine cm hC ?_;by_cases c3:0<=Pk e.uri 10
   .have hB:B=false:=by rw[Lc];simp[c3]
    simp[c3,hB];exact aB H
   .simp[c3];refine cm hK ?_;by_cases c4:K.length<=100
    .have uy:(K.length:Int)<=100:=O;have hB:B=true:=by rw[Lc];simp[c1,c2,c3,c4]
     simp[uy,hB];exact aB H
    .have uy:¬(K.length:Int)<=100:=O;have hB:B=false:=by rw[Lc];simp[c4]
     simp[uy,hB];exact aB H
  .have eY:¬(e.uri.length:Int)<=100:=O;have hB:B=false:=by rw[Lc];simp[c2]
   simp[jR,bne,eY,hB];exact aB H
 refine iF mixed [(1,.p (.ref (fK e))),(3,.p (.bool e.yR)),(4,.p (.bool e.jg))] ⟨[],[],0⟩ ?_ ?_
 .have hS:=Tv e.st h.m h.t h.r;have hF:=TB e.fields h.fl h.fs h.ff;have hN:=TW e.names h.nl h.ns;have hh:e.jg=(!(e.st.st==0)&&(Tt e.st&&((Pg e.fields==0)&&vk e.names))):=rfl;generalize e.jg=B at hh⊢;generalize e.yR=U1 at*;generalize Tt e.st=s1 at hS hh;generalize(Pg e.fields==0)=s2 at hF hh;generalize vk e.names=s3 at hN hh;cases c1:(e.st.st==0)with
  |true=>
   have hB:B=false:=by rw[hh,c1];rfl
   simp[c1,bne,hB];exact aB H
  |false=>
   simp[c1,bne];refine cm hS ?_;cases s1 with
   |false=>
    have hB:B=false:=by rw[hh];simp
    simp[hB];exact aB H
   |true=>
    simp;refine cm hF ?_;cases s2 with
    |false=>
     have hB:B=false:=by rw[hh];simp
     simp[hB];exact aB H
    |true=>
     simp;refine cm hN ?_;have hB:B=s3:=by rw[hh,c1];simp
     simp[hB];exact aB H
 refine iF mixed [(1,.p (.ref (fK e))),(3,.p (.bool e.yR)),(4,.p (.bool e.jg)),(5,.p (.bool e.DT))] ⟨[],[],0⟩ ?_ ?_
 .have h1:=HX e.asked 1099511627776;have h2:=HX e.got 1099511627776;have h3:=HX e.order 1152921504606846975;have h4:=HX e.size 1048576;have hh:e.DT=(wK e.asked 1099511627776&&(wK e.got 1099511627776&&(wK e.order 1152921504606846975&&wK e.size 1048576))):=rfl;generalize e.DT=B at hh⊢;generalize e.yR=U1 at*;generalize e.jg=V at*;generalize wK e.asked 1099511627776=s1 at h1 hh;generalize wK e.got 1099511627776=s2 at h2 hh;generalize wK e.order 1152921504606846975=s3 at h3 hh;generalize wK e.size 1048576=s4 at h4 hh;simp;refine cm h1 ?_;cases s1 with
  |false=>
   have hB:B=false:=by rw[hh];simp
   simp[hB];exact aB H
  |true=>
   simp;refine cm h2 ?_;cases s2 with
   |false=>
    have hB:B=false:=by rw[hh];simp
    simp[hB];exact aB H
   |true=>
    simp;refine cm h3 ?_;cases s3 with
    |false=>
     have hB:B=false:=by rw[hh];simp
     simp[hB];exact aB H
    |true=>
     simp;refine cm h4 ?_;have hB:B=s4:=by rw[hh];simp
     simp[hB];exact aB H
 refine g_ mixed ?_;have hs:e.DT=true->e.size<=1000000000:=by
  intro hn;unfold cS.DT wK at hn;simp at hn;omega
 have hh:e.right=(e.yR&&(e.jg&&(e.DT&&gF e.body e.size))):=rfl;generalize e.right=R at hh⊢;generalize e.yR=U1 at*;generalize e.jg=V at*;generalize e.DT=W at*;cases U1 with
 |false=>
  have hB:R=false:=by rw[hh];simp
  simp[hB,results54]
 |true=>
  cases V with
  |false=>
   have hB:R=false:=by rw[hh];simp
   simp[hB,results54]
  |true=>
   cases W with
   |false=>
    have hB:R=false:=by rw[hh];simp
    simp[hB,results54]
   |true=>
    have hP:=PA e.body e.size h.bl (hs rfl);have hB:R=gF e.body e.size:=by rw[hh];simp
    rw[<-hB]at hP;simp;refine cm hP ?_;simp[results54]
def AH(e:cS)(h:e.Ok):cq 54 [fK e] (.bool e.right):=Ud e h.big
@[reducible]def DL(r:Nat)(b:aF):Ob:=⟨408,1,[.view r 0 b.length 1 none]⟩
def fZ(b:aF)(hb:b.length<=1000000000)(n:Int)(size:Nat)(hs:size<=8):bN 309 [.obj 0 0,.p (.int n),.p (.int size)] ⟨[(0,DL 1 b),(1,gE b)],[],2⟩ (.agg true []) ⟨[(0,DL 2 (b++cL n size)),(2,gE (b++cL n size))],[],3⟩:=by
 have hl:=bC n size;refine aq [] [] [(3,[(4,.r 1),(11,.w []),(14,.s 1 [])])] [(1,0)] func309 rfl ?_;have w0:IntKind.i64.wrap ((size:Int)-1)=(size:Int)-1:=aG;simp[w0];refine aS (λk:Nat=>k<=size) (λk=>[(0,.obj 0 0),(1,.p (.int n)),(6,.p (.int ((size:Int)-1-k)))]) (λk=>⟨[(0,DL 2 (b++(cL n size).take k)),(2,gE (b++(cL n size).take k))],[],3⟩) (λk=>size-k) 0 H _ (AS.le_refl _ _) (aE [(2,1)] H) ?_;intro k hk;by_cases ck:k<size
 .have c1:(k:Int)<=(size:Int)-1:=O;have w1:IntKind.i64.wrap ((size:Int)-1-k-1)=(size:Int)-1-((k+1:Nat):Int):=by rw[aG];omega
  have w2:IntKind.i64.wrap (8*((size:Int)-1-k))=8*((size:Int)-1-k):=aG;have w3:IntKind.u8.wrap (n.fdiv (2^min (8*((size:Int)-1-k)).toNat IntKind.i64.bits))=((zS (n/2^(8*(size-1-k)))).toNat:Int):=by
   have e:min (8*((size:Int)-1-k)).toNat IntKind.i64.bits=8*(size-1-k):=by
    have e2:IntKind.i64.bits=64:=rfl;rw[e2];omega
   rw[e,mP _ (yC (yD O)),oA]
  have hts:=CK n size k ck;have hlk:(b++(cL n size).take k).length=b.length+k:=by simp;omega
  have ht1:List.take (b.length+k) (List.map AV.p (af (b++List.take k (cL n size))))=List.map AV.p (af (b++List.take k (cL n size))):=gv (by simp[af];omega);have hmn:min k (cL n size).length=k:=O;simp[c1,w1,w2,w3,ht1,hlk];refine⟨O,O,O,k+1,O,O,aE [(2,3)] ?_⟩;rw[hts];simp[af,ow,hmn]
 .obtain rfl:k=size:=O;have c1:¬(k:Int)<=(k:Int)-1:=O;have ht:(cL n k).take k=cL n k:=gv O;simp[c1,results309,ht];exact⟨[],H⟩
def fP(l:List (aF)):aF:=l.flatMap λs=>cL s.length 2++s
def I_(l:List (aF))(k:Nat):(fP (l.take k)).length<=(fP l).length:=by
 have h:fP l=fP (l.take k)++fP (l.drop k):=by unfold fP;rw[<-BR,eO]
 rw[h,mo];omega
def yq(b:aF)(l:List (aF))(hl:l.length<=1000000)(hb:b.length+(fP l).length<=1000000000):bN 310 [.obj 0 0,.p (.sl (l.map PC.str))] ⟨[(0,DL 1 b),(1,gE b)],[],2⟩ (.agg true []) ⟨[(0,DL 2 (b++fP l)),(2,gE (b++fP l))],[],3⟩:=by
 refine aq [] [] [(4,[(4,.r 1),(6,.w []),(9,.s 1 [])])] [(1,0)] func310 rfl ?_;simp;refine aS (λk:Nat=>k<=l.length) (λk=>[(0,.obj 0 0),(6,.p (.sl (l.map PC.str))),(7,.p (.int l.length)),(8,.p (.int k))]) (λk=>⟨[(0,DL 2 (b++fP (l.take k))),(2,gE (b++fP (l.take k)))],[],3⟩) (λk=>l.length-k) 0 H _ (AS.le_refl _ _) (aE [(2,1)] (by simp[fP])) ?_;intro k hk;by_cases ck:k<l.length
 .have wk:=ju k;obtain⟨s,hs⟩:=lT (l[k]);have hts:fP (l.take (k+1))=fP (l.take k)++(cL s.length 2++s):=by rw[kG ck,hs];simp[fP]
  have hle:=I_ l (k+1);obtain⟨B,hB⟩:=lT (b++fP (l.take k));have hBl:B.length<=1000000000:=by have:=I_ l k;rw[<-hB,mo];omega
  have hN:=fZ B hBl s.length 2 O;have h2:=bC s.length 2;have ZU:B.length+2+s.length<=1000000000:=by rw[hts]at hle;simp only[mo]at hle;rw[<-hB,mo];omega
  have hnew:b++fP (l.take (k+1))=B++cL s.length 2++s:=by rw[hts,<-hB];simp
  have hl3:(B++cL s.length 2).length=B.length+2:=by rw[mo,h2]
  rw[hB];simp[ck,hs];refine Dy [0,2] hN ?_;generalize hX:B++cL s.length 2=X at hl3 hnew;simp[wk,hl3];have ht1:List.take (B.length+2) (List.map AV.p (af X))=List.map AV.p (af X):=gv (by simp[af];omega);refine⟨O,O,k+1,O,O,aE [(2,4)] ?_⟩;have hl4:(X++s).length=B.length+2+s.length:=by rw[mo,hl3]
  rw[hnew,ht1];simp[hl4];simp[af]
 .obtain rfl:k=l.length:=O;rw[eH];simp[results310];exact⟨[],H⟩
end Go.Av
namespace Go.aL
open Go.Av
def cS.h1(e:cS):aF:=69::(cL e.st.st 2++cL e.st.mi 1)
def cS.h2(e:cS):aF:=e.h1++([e.asked,e.got,e.order].flatMap λn=>cL n 8)
def cS.h3(e:cS):aF:=e.h2++cL e.size 4++cL e.sum 4++fP [e.uri,e.var,e.st.r]++cL e.names.length 1++fP e.names++cL e.fields.length 1
def cS.h4(e:cS):aF:=e.h3++(e.fields.flatMap λf=>fP [f.1,f.2])++cL e.body.length 1
def cS.pack(e:cS):aF:=e.h4++(e.body.flatMap λx=>cL x.1 4++cL x.2 4)
def cS.Eg(e:cS):aF×Int:=if e.right=true then(if 8000<e.pack.length then([],12)else(e.pack,0))else([],10)
end Go.aL
namespace Go.Av
open Go.Proofs Go.Proofs.Tryz Go.aL
def FR{α:Type}(Y:aF)(f:α->aF){l:List α}{k:Nat}(ck:k<l.length){n:Nat}(hb:(Y++l.flatMap f).length<=n):Y++(l.take (k+1)).flatMap f=(Y++(l.take k).flatMap f)++f l[k]/\(Y++(l.take k).flatMap f).length+(f l[k]).length<=n:=by
 have hts:Y++(l.take (k+1)).flatMap f=(Y++(l.take k).flatMap f)++f l[k]:=by rw[kG ck,BR,show[l[k]].flatMap f=f l[k] by simp,cW]
 refine⟨hts,?_⟩;rw[<-mo,<-hts];have hsp:l.flatMap f=(l.take (k+1)).flatMap f++(l.drop (k+1)).flatMap f:=by rw[<-BR,eO]
 rw[hsp]at hb;simp only[mo]at hb⊢;omega
def TC(e:cS)(h:e.Ok)(hr:e.right=true)(hb:e.pack.length<=1000000000):bN 229 [.p (fK e)] ⟨[],[],0⟩ (if 8000<e.pack.length then .agg true [.p .nil,.p (.int 12)]else .agg true [.view 0 0 e.pack.length 1 none,.p (.int 0)]) ⟨[(0,gE e.pack)],[],1⟩:=by
 obtain⟨r1,RO⟩:=lT ((if 8000<e.pack.length then AV.p .nil else .view 0 0 e.pack.length 1 none));obtain⟨r2,Kb⟩:=lT ((if 8000<e.pack.length then AV.p (.int 12)else .p (.int 0)));have hR:(if 8000<e.pack.length then AV.agg true [.p .nil,.p (.int 12)]else .agg true [.view 0 0 e.pack.length 1 none,.p (.int 0)])=wL [r1,r2]:=by rw[<-RO,<-Kb];split<;>rfl
 refine kQ (rs:=[r1,r2]) [14,16] [] [] func229 rfl bp bp (by simp[ntmps229]) hR ?_;refine iF mixed [(1,.p (.ref (fK e)))] ⟨[],[],0⟩ ?_ ?_
 .simp;exact aB H
 refine iF mixed [(1,.p (.ref (fK e))),(13,.p (.bool false))] ⟨[],[],0⟩ ?_ ?_
 .simp;refine cm (AH e h) ?_;simp[hr];exact aB H
 refine iF mixed [(1,.p (.ref (fK e))),(4,.obj 1 0)] ⟨[(1,⟨408,1,[.view 0 0 1 1 (some 1)]⟩),(0,gE [69])],[],2⟩ ?_ ?_
 .simp;exact aB (by simp[af])
 refine qP (TD 1 0 (.view 0 0 1 1 (some 1)) (.view 0 0 1 1 none) ⟨408,1,[.view 0 0 1 1 (some 1)]⟩ (by simp[lk]) rfl H) ?_;have ws:IntKind.i64.wrap (e.sum:Int)=(e.sum:Int):=bQ O (by have:=h.sum;omega);have hL2:e.h2.length=4+([e.asked,e.got,e.order].flatMap λn=>cL n 8).length:=by simp[cS.h2,cS.h1,bC];try omega
 have hL:e.pack.length=e.h4.length+(e.body.flatMap λx=>cL x.1 4++cL x.2 4).length:=by simp[cS.pack]
 have hL4:e.h4.length=e.h3.length+(e.fields.flatMap λf=>fP [f.1,f.2]).length+1:=by simp[cS.h4,bC];try omega
 have hL3:e.h3.length=e.h2.length+9+(fP [e.uri,e.var,e.st.r]).length+(fP e.names).length+1:=by simp[cS.h3,bC];try omega
 obtain⟨P0,p0⟩:=mH ([(69:UInt8)]);have l0:P0.length=1:=by rw[p0];rfl
 rw[<-p0];obtain⟨P1,p1⟩:=mH (P0++cL (e.st.st) 2);have l1:P1.length=P0.length+2:=by rw[p1];simp[bC]
 refine iF mixed [(1,.p (.ref (fK e))),(4,.obj 1 0)] ⟨[(1,DL 0 P1),(0,gE P1)],[],2⟩ ?_ ?_
 .have hN:=fZ P0 O (e.st.st) 2 O;rw[<-p1]at hN;simp[Tb.aY];refine aD [1,0] hN H H (by simp[aA,l0]) H ?_;simp;exact aE [(0,2)] H
 obtain⟨P2,p2⟩:=mH (P1++cL (e.st.mi) 1);have l2:P2.length=P1.length+1:=by rw[p2];simp[bC]
 refine iF mixed [(1,.p (.ref (fK e))),(4,.obj 1 0)] ⟨[(1,DL 0 P2),(0,gE P2)],[],2⟩ ?_ ?_
 .have hN:=fZ P1 O (e.st.mi) 1 O;rw[<-p2]at hN;simp;refine Dy [1,0] hN ?_;simp;exact aE [(0,2)] H
 obtain⟨P3,p3⟩:=mH (P2++[e.asked,e.got,e.order].flatMap (λn=>cL n 8));have l3:P3.length=P2.length+([e.asked,e.got,e.order].flatMap (λn=>cL n 8)).length:=by rw[p3];simp[bC]
 refine iF mixed [(1,.p (.ref (fK e))),(4,.obj 1 0)] ⟨[(1,DL 0 P3),(0,gE P3)],[],2⟩ ?_ ?_
 .have J8:([e.asked,e.got,e.order]).length<=1000000000:=by first|exact h.fl|(have:=h.bl;omega)|simp
  obtain⟨l,MO⟩:=mH (([e.asked,e.got,e.order]));have uk:P3.length<=1000000000:=O;obtain⟨f,hf⟩:=mH ((λn=>cL n 8));rw[<-MO,<-hf]at l3 p3;rw[<-MO]at J8;rw[p3]at uk⊢;simp;refine aS (λk:Nat=>k<=l.length) (λk=>[(1,.p (.ref (fK e))),(4,.obj 1 0),(35,.p (.sl (l.map PC.int))),(36,.p (.int l.length)),(37,.p (.int k))]) (λk=>⟨[(1,DL 0 (P2++(l.take k).flatMap f)),(0,gE (P2++(l.take k).flatMap f))],[],2⟩) (λk=>l.length-k) 0 H _ (AS.le_refl _ _) (aB (by simp[MO])) ?_;intro k hk;by_cases ck:k<l.length
  .have wk:=ju k;obtain⟨hts,hbk⟩:=FR P2 f ck uk;generalize hs:l[k]=s at hts hbk;generalize hZ:P2++(l.take (k+1)).flatMap f=Z at hts;generalize P2++(l.take k).flatMap f=X at hts hbk⊢;rw[hf]at hts hbk;have hN:=fZ X (by simp[bC]at hbk;omega) s 8 O;simp[ck,hs];refine Dy [1,0] hN ?_;rw[<-show Z=X++cL s 8 from hts];simp[wk];exact⟨k+1,O,O,aE [(0,2)] (by simp[hZ])⟩
  .obtain rfl:k=l.length:=O;rw[eH];simp;exact aB (by simp[MO])
 obtain⟨P4,p4⟩:=mH (P3++cL (e.size) 4);have l4:P4.length=P3.length+4:=by rw[p4];simp[bC]
 refine iF mixed [(1,.p (.ref (fK e))),(4,.obj 1 0)] ⟨[(1,DL 0 P4),(0,gE P4)],[],2⟩ ?_ ?_
 .have hN:=fZ P3 O (e.size) 4 O;rw[<-p4]at hN;simp;refine Dy [1,0] hN ?_;simp;exact aE [(0,2)] H
 obtain⟨P5,p5⟩:=mH (P4++cL (e.sum) 4);have l5:P5.length=P4.length+4:=by rw[p5];simp[bC]
 refine iF mixed [(1,.p (.ref (fK e))),(4,.obj 1 0)] ⟨[(1,DL 0 P5),(0,gE P5)],[],2⟩ ?_ ?_
 .have hN:=fZ P4 O (e.sum) 4 O;rw[<-p5]at hN;simp[ws];refine Dy [1,0] hN ?_;simp;exact aE [(0,2)] H
 obtain⟨P6,p6⟩:=mH (P5++fP [e.uri,e.var,e.st.r]);have l6:P6.length=P5.length+(fP [e.uri,e.var,e.st.r]).length:=by rw[p6];simp[bC]
 refine iF mixed [(1,.p (.ref (fK e))),(4,.obj 1 0)] ⟨[(1,DL 0 P6),(0,gE P6)],[],2⟩ ?_ ?_
 .have hN:=yq P5 [e.uri,e.var,e.st.r] (by first|(have:=h.nl;omega)|simp) O;rw[<-p6]at hN;simp;refine Dy [1,0] hN ?_;simp;exact aE [(0,2)] H
 obtain⟨P7,p7⟩:=mH (P6++cL (e.names.length) 1);have l7:P7.length=P6.length+1:=by rw[p7];simp[bC]
 refine iF mixed [(1,.p (.ref (fK e))),(4,.obj 1 0)] ⟨[(1,DL 0 P7),(0,gE P7)],[],2⟩ ?_ ?_
 .have hN:=fZ P6 O (e.names.length) 1 O;rw[<-p7]at hN;simp;refine Dy [1,0] hN ?_;simp;exact aE [(0,2)] H
 obtain⟨P8,p8⟩:=mH (P7++fP e.names);have l8:P8.length=P7.length+(fP e.names).length:=by rw[p8];simp[bC]
 refine iF mixed [(1,.p (.ref (fK e))),(4,.obj 1 0)] ⟨[(1,DL 0 P8),(0,gE P8)],[],2⟩ ?_ ?_
 .have hN:=yq P7 e.names (by first|(have:=h.nl;omega)|simp) O;rw[<-p8]at hN;simp;refine Dy [1,0] hN ?_;simp;exact aE [(0,2)] H
 obtain⟨P9,p9⟩:=mH (P8++cL (e.fields.length) 1);have l9:P9.length=P8.length+1:=by rw[p9];simp[bC]
 refine iF mixed [(1,.p (.ref (fK e))),(4,.obj 1 0)] ⟨[(1,DL 0 P9),(0,gE P9)],[],2⟩ ?_ ?_
 .have hN:=fZ P8 O (e.fields.length) 1 O;rw[<-p9]at hN;simp;refine Dy [1,0] hN ?_;simp;exact aE [(0,2)] H
 obtain⟨P10,p10⟩:=mH (P9++e.fields.flatMap (λ(f:Go.Av.Fd)=>fP [f.1,f.2]));have l10:P10.length=P9.length+(e.fields.flatMap (λ(f:Go.Av.Fd)=>fP [f.1,f.2])).length:=by rw[p10];simp[bC]
 refine iF mixed [(1,.p (.ref (fK e))),(4,.obj 1 0)] ⟨[(1,DL 0 P10),(0,gE P10)],[],2⟩ ?_ ?_
 .have J8:(e.fields).length<=1000000000:=by first|exact h.fl|(have:=h.bl;omega)|simp
  obtain⟨l,MO⟩:=mH ((e.fields));have uk:P10.length<=1000000000:=O;obtain⟨f,hf⟩:∃f,f=(λ(f:Go.Av.Fd)=>fP [f.1,f.2]):=⟨_,rfl⟩;rw[<-MO,<-hf]at l10 p10;rw[<-MO]at J8;rw[p10]at uk⊢;simp;refine aS (λk:Nat=>k<=l.length) (λk=>[(1,.p (.ref (fK e))),(4,.obj 1 0),(79,.p (.sl (l.map oL))),(80,.p (.int l.length)),(81,.p (.int k))]) (λk=>⟨[(1,DL 0 (P9++(l.take k).flatMap f)),(0,gE (P9++(l.take k).flatMap f))],[],2⟩) (λk=>l.length-k) 0 H _ (AS.le_refl _ _) (aB (by simp[MO])) ?_;intro k hk;by_cases ck:k<l.length
  .have wk:=ju k;obtain⟨hts,hbk⟩:=FR P9 f ck uk;generalize hs:l[k]=s at hts hbk;generalize hZ:P9++(l.take (k+1)).flatMap f=Z at hts;generalize P9++(l.take k).flatMap f=X at hts hbk⊢;rw[hf]at hts hbk;have hN:=yq X [s.1,s.2] H O;simp[ck,hs];refine Dy [1,0] hN ?_;rw[<-show Z=X++fP [s.1,s.2]from hts];simp[wk];exact⟨k+1,O,O,aE [(0,3)] (by simp[hZ])⟩
  .obtain rfl:k=l.length:=O;rw[eH];simp;exact aB (by simp[MO])
 obtain⟨XB,p11⟩:=mH (P10++cL (e.body.length) 1);have l11:XB.length=P10.length+1:=by rw[p11];simp[bC]
 refine iF mixed [(1,.p (.ref (fK e))),(4,.obj 1 0)] ⟨[(1,DL 0 XB),(0,gE XB)],[],2⟩ ?_ ?_
 .have hN:=fZ P10 O (e.body.length) 1 O;rw[<-p11]at hN;simp;refine Dy [1,0] hN ?_;simp;exact aE [(0,2)] H
 obtain⟨P12,p12⟩:=mH (XB++e.body.flatMap (λ(x:Int×Int)=>cL x.1 4++cL x.2 4));have l12:P12.length=XB.length+(e.body.flatMap (λ(x:Int×Int)=>cL x.1 4++cL x.2 4)).length:=by rw[p12];simp[bC]
 refine iF mixed [(1,.p (.ref (fK e))),(4,.obj 1 0)] ⟨[(1,DL 0 P12),(0,gE P12)],[],2⟩ ?_ ?_
 .have J8:(e.body).length<=1000000000:=by first|exact h.fl|(have:=h.bl;omega)|simp
  obtain⟨l,MO⟩:=mH ((e.body));have uk:P12.length<=1000000000:=O;obtain⟨f,hf⟩:=mH ((λ(x:Int×Int)=>cL x.1 4++cL x.2 4));rw[<-MO,<-hf]at l12 p12;rw[<-MO]at J8;rw[p12]at uk⊢;simp;refine aS (λk:Nat=>k<=l.length) (λk=>[(1,.p (.ref (fK e))),(4,.obj 1 0),(99,.p (.sl (l.map dO))),(100,.p (.int l.length)),(101,.p (.int k))]) (λk=>⟨[(1,DL 0 (XB++(l.take k).flatMap f)),(0,gE (XB++(l.take k).flatMap f))],[],2⟩) (λk=>l.length-k) 0 H _ (AS.le_refl _ _) (aB (by simp[MO])) ?_;intro k hk;by_cases ck:k<l.length
  .have wk:=ju k;obtain⟨hts,hbk⟩:=FR XB f ck uk;generalize hs:l[k]=s at hts hbk;generalize hZ:XB++(l.take (k+1)).flatMap f=Z at hts;generalize XB++(l.take k).flatMap f=X at hts hbk⊢;rw[hf]at hts hbk;have hN:=fZ X (by simp[bC]at hbk;omega) s.1 4 O;have HK:=fZ (X++cL s.1 4) (by simp[bC]at hbk⊢;omega) s.2 4 O;simp[ck,hs];refine Dy [1,0] hN ?_;have aj9:Z=X++cL s.1 4++cL s.2 4:=by rw[hts];simp
   generalize X++cL s.1 4=X2 at HK aj9⊢;simp;refine Dy [1,3] HK ?_;rw[<-aj9];simp[wk];exact⟨k+1,O,O,aE [(0,4)] (by simp[hZ])⟩
  .obtain rfl:k=l.length:=O;rw[eH];simp;exact aB (by simp[MO])
 have hP:P12=e.pack:=by rw[p12,p11,p10,p9,p8,p7,p6,p5,p4,p3,p2,p1,p0];rfl
 rw[hP];generalize e.pack=K at*;refine g_ mixed ?_;by_cases c:8000<K.length
 .have c':(8000:Int)<K.length:=O;rw[ai c]at RO Kb;subst RO;subst Kb;simp[c',results229];exact⟨[],H⟩
 .have c':¬(8000:Int)<K.length:=O;rw[ah c]at RO Kb;subst RO;subst Kb;simp[c',results229];exact⟨[],H⟩
def Za(e:cS)(h:e.Ok)(hb:e.pack.length<=1000000000):cq 229 [fK e] (.tp [cK e.Eg.1,.int e.Eg.2]):=by
 unfold cS.Eg;by_cases hr:e.right=true
 .rw[ai hr];have hG:=TC e h hr hb;by_cases c:8000<e.pack.length
  .rw[ai c]at hG;rw[ai c];refine bF (xs:=[_]) hG ?_;simp[dA,j_];rfl
  .rw[ah c]at hG;rw[ah c];refine bF (xs:=[_]) hG ⟨rfl,Ch _ 2 0 e.pack (by simp[lk]) _ rfl,?_,trivial⟩;simp[dA]
 .have hr':e.right=false:=U hr;rw[ah hr];refine dK [_,_] [14,16] [] [] func229 rfl ?_;simp;refine cm (AH e h) ?_;simp[hr',results229];rfl
@[reducible]def Kc(b:aF):Ob:=⟨359,1,[.p (cK b)]⟩
def I5(b:aF)(hb:b.length<=1000000000)(n:Nat)(hn:n<=b.length):bN 370 [.obj 0 0,.p (.int n)] ⟨[(0,Kc b)],[],1⟩ (.p (cK (b.take n))) ⟨[(0,Kc (b.drop n))],[],1⟩:=by
 have k1:List.take n (af b)=af (b.take n):=by simp[af]
 have k2:List.drop n (af b)=af (b.drop n):=by simp[af]
 have c:¬b.length<n:=O;refine aC [_] func370 rfl ?_;simp[c,k1,k2,results370];exact⟨λy hy=>(cJ _ y hy).symm,hn,λy hy=>(cJ _ y hy).symm,hn,[],H⟩
def Ce(b:aF)(hb:b.length<=1000000000)(n:Nat)(hn:n<=b.length):bN 330 [.obj 0 0,.p (.int n)] ⟨[(0,Kc b)],[],1⟩ (.p (.int (cZ (b.take n)))) ⟨[(0,Kc (b.drop n))],[],1⟩:=by
 have hT:=I5 b hb n hn;have hl:(b.take n).length=n:=by simp;omega
 generalize b.take n=t at hT hl⊢;generalize b.drop n=d at hT⊢;refine aC [_] func330 rfl ?_;simp;refine oM hT rfl ?_;have w00:IntKind.i64.wrap 0=0:=aG;simp;refine aS (λk:Nat=>k<=t.length) (λk=>[(10,.p (cK t)),(11,.p (.int t.length)),(12,.p (.int k)),(5,.p (.int (cZ (t.take k))))]) (λ_=>⟨[(0,Kc d)],[],1⟩) (λk=>t.length-k) 0 H _ (AS.le_refl _ _) (aB (by simp[cZ,m7,w00])) ?_;intro k hk;by_cases ck:k<t.length
 .have w1:=ju k;have wx:IntKind.i64.wrap (t[k].toNat:Int)=(t[k].toNat:Int):=bQ O (by have:=t[k].toNat_lt;omega);have ho:=Cd (m7 (t.take k)) t[k].toNat (t[k].toNat_lt);have hts:cZ (t.take (k+1))=IntKind.i64.wrap ((m7 (t.take k)*256+t[k].toNat:Nat):Int):=by
   unfold cZ;rw[kG ck,mG]
  rw[<-hts]at ho;change bits .or .i64 (IntKind.i64.wrap (cZ (t.take k)*2^min 8 IntKind.i64.bits)) _=_ at ho;simp[ck,w1,wx,ho,eX];exact⟨k+1,O,O,aB H⟩
 .obtain rfl:k=t.length:=O;simp[results330];exact⟨[],H⟩
def T_(b:aF)(hb:b.length<=1000000000)(n:Nat)(h2:2<=b.length)(hw:cZ (b.take 2)=n)(hn:n+2<=b.length):bN 331 [.obj 0 0] ⟨[(0,Kc b)],[],1⟩ (.p (.str ((b.drop 2).take n))) ⟨[(0,Kc (b.drop (2+n)))],[],1⟩:=by
 have hN:=Ce b hb 2 h2;have hT:=I5 (b.drop 2) (by simp;omega) n (by simp;omega);rw[hw]at hN;rw[oy]at hT;refine aC [_] func331 rfl ?_;simp;refine oM hN rfl ?_;simp;refine oM hT rfl ?_;simp[results331];exact⟨[],H⟩
end Go.Av
namespace Go.aL
structure Kn where
 key:List UInt8
 order:Int
 place:Int
 body:List (Int×Int)
def Kn.gP(k:Kn):Int×Int:=(k.place/256,k.place%256)
def zZ(l:List (Int×Int)):Int:=(l.map λx=>x.2*64).sum
def IY(l:List (Int×Int))(e:Int×Int):zZ (l++[e])=zZ l+e.2*64:=by simp[zZ]
theorem Vo:∀(l:List (Int×Int)),(∀e∈l,0<=e.2/\e.2<=65536)->0<=zZ l/\zZ l<=4194304*l.length
 |[],_=>by simp[zZ]
 |e::l,h=>by
  have h1:=Vo l (λx hx=>h x (by simp[hx]));have h2:=h e H;have:zZ (e::l)=e.2*64+zZ l:=by simp[zZ]
  rw[this,List.length_cons];omega
def DR(a b:List UInt8):Int:=if Op.bytesLess a b=true then-1 else if a=b then 0 else 1
def zR(f:Nat->Int):Nat->Nat->Nat->Nat
 |0,i,_=>i
 |n+1,i,j=>if i<j then(if f ((i+j)/2)<0 then zR f n ((i+j)/2+1) j else zR f n i ((i+j)/2))else i
end Go.aL
namespace Go.Av
open Go.Proofs Go.Proofs.Tryz Go.aL
abbrev Pt(k:Kn):PC:= .agg false [.str k.key,.int k.order,.int k.place,.sl (k.body.map dO)]
def Ct(k:Kn)(h:0<=k.place/\k.place<=1000000000):cq 63 [Pt k] (dO k.gP):=by
 have q1:k.place.tdiv 256=k.place/256:=FQ h.1;have q2:k.place.tmod 256=k.place%256:=sk h.1;have w1:IntKind.i64.wrap (k.place/256)=k.place/256:=aG;have w2:IntKind.i64.wrap (k.place%256)=k.place%256:=aG;refine ay [_] func63 rfl ?_;simp[q1,q2,w1,Kn.gP,results63]
def IZ(l:eL)(hl:l.length<=1000000)(hb:∀e∈l,0<=e.2/\e.2<=65536):cq 66 [.sl (l.map dO)] (.int (zZ l)):=by
 refine ay [_] func66 rfl ?_;simp;refine bI (λk:Nat=>k<=l.length) (λk=>[(6,.p (.sl (l.map dO))),(7,.p (.int l.length)),(8,.p (.int k)),(3,.p (.int (zZ (l.take k))))]) (λk=>l.length-k) 0 H (aB (by simp[zZ])) ?_;intro k hk;by_cases ck:k<l.length
 .have hts:zZ (l.take (k+1))=zZ (l.take k)+l[k].2*64:=by rw[kG ck,IY]
  have b1:=Vo (l.take k) (λe he=>hb e (oa he));have bl:(l.take k).length<=1000000:=by simp;omega
  have b2:=hb _ (bB ck);have wk:=ju k;have w1:IntKind.i64.wrap (l[k].2*64)=l[k].2*64:=aG;have w2:IntKind.i64.wrap (zZ (l.take k)+l[k].2*64)=zZ (l.take (k+1)):=by rw[aG,hts]
  simp[ck,wk,w1,w2];exact⟨k+1,O,O,aB H⟩
 .obtain rfl:k=l.length:=O;simp[results66]
def Vp(a:aF):cq 249 [.str a] (.bool false):=by
 refine ay [_] func249 rfl ?_;simp[bne,results249]
def afA(a b:aF):cq 156 [.str a,.str b] (.int (DR a b)):=by
 refine ay [_] func156 rfl ?_;simp;refine cm (Vp a) ?_;simp;refine cm (Vp b) ?_;unfold DR;cases c1:Op.bytesLess a b with
 |true=>simp[c1,results156]
 |false=>
  by_cases c2:a=b
  .subst c2;simp[c1,results156]
  .have eY:(a==b)=false:=U c2;simp[c1,c2,eY,results156]
def ako(k:Kn)(key:aF):cq 155 [Pt k,.str key] (.int (DR k.key key)):=by
 refine ay [_] func155 rfl ?_;simp;refine cm (afA k.key key) ?_;simp[results155]
end Go.Av
namespace Go.Av
open Go.Proofs Go.Proofs.Tryz
def ae1:eE prog 268:=⟨Tryz.f268,func268,bp,bp⟩
def UN(nx id:Nat)(hid:id<nx)(cs:List PC)(n i j:Nat)(hn:cs.length=n*2)(hij:i<=j)(hj:j<=n)(hb:n<=1000000000000):bN 268 [.view id 0 n 2 none,.p (.int i),.p (.int j)] ⟨[(id,⟨157,2,cs.map .p⟩)],[],nx⟩ (.view nx 0 (n-(j-i)) 2 none) ⟨[(nx,⟨157,2,(cs.take (i*2)++cs.drop (j*2)).map .p⟩)],[],nx+1⟩:=by
 have hne:¬id=nx:=O;have fE:¬nx=id:=O;have kW:(cs.map AV.p).length=n*2:=by simp;omega
 refine iX (pre:=[]) (post:=[_,_]) ae1 (λc h1 h2 h3=>?_) ?_
 .refine aq [_] [] [(5,[(6,.w [])])] [] func268 rfl ?_;generalize hA:cs.map AV.p=A at*;by_cases c0:i=j
  .subst c0;have hd:List.take (i*2) A++List.drop (i*2) A=A:=eO _ _;simp[results268,hne,fE];exact⟨hj,[(nx,id)],by simp[hA]⟩
  .have e0:((i:Int)==(j:Int))=false:=by rw[kC];omega
   have t1:((i:Int)+((n-j:Nat):Int)).toNat=i+(n-j):=O;have key:∀R,List.take ((i+(n-j))*2) (List.take (i*2) A++(List.take ((n-j)*2) (List.drop (j*2) A)++R))=List.take (i*2) A++List.drop (j*2) A:=λR=>by
    have:=wW (R:=R) (n:=n*2) (i:=i*2) (j:=j*2) (k:=(i+(n-j))*2) kW O O O;rw[<-Nat.sub_mul]at this;exact this
   simp[e0,t1,results268,hne,fE]
   repeat' refine And.intro ?_ ?_
   all_goals first|omega|skip
   refine .inl ?_
   repeat' refine And.intro ?_ ?_
   all_goals first|omega|(simp;omega)|skip
   refine⟨[(nx,id)],?_⟩;simp[hA,key];omega
 .intro hn0;have Ho:i=0:=O;have hj0:j=0:=O;have hc0:cs=[]:=o5 O;subst Ho;subst hj0;subst hc0;subst hn0;refine eT (r:= .full []) (a_:=⟨[],[],nx⟩) (el:=157) (s:=2) ?_ trivial;refine aq [_] [] [(5,[(6,.w [])])] [] func268 rfl ?_;simp[results268]
  repeat' refine And.intro ?_ ?_
  all_goals first|omega|exact⟨[],H⟩|simp
def ae2:Lw prog 336:=⟨Tryz.f336,47,4,157,func336,bp,bp,bp,bp,bp,bp⟩
def ae3:eE prog 269:=⟨Tryz.f269,func269,bp,bp⟩
abbrev lz(e:Nat×Nat):PC:= .agg false [.int e.1,.int e.2]
def PU{A V Z R:List AV}{n i k:Nat}(hA:A.length=n*2)(hi:i<=n)(hV:V.length=2)(hZ:2<=Z.length)(hk:k=(n-i)*2):List.take ((i+1)*2) (bH ((i+1)*2) (List.take (i*2) (bH (i*2) (List.take (i*2) A++Z))++(V++List.drop (i*2+2) (bH (i*2) (List.take (i*2) A++Z)))))++(List.take k (List.drop (i*2) A)++R)=List.take (i*2) A++(V++(List.drop (i*2) A++R)):=by
 have h1:(List.take (i*2) A).length=i*2:=by simp;omega
 have h2:List.take k (List.drop (i*2) A)=List.drop (i*2) A:=gv (by simp;omega);rw[h2];generalize List.take (i*2) A=P at*;rw[fj (k:=i*2) (by simp;omega),gN h1];have h3:List.drop (i*2+2) (P++Z)=List.drop 2 Z:=by rw[qU,h1,gM O];simp
 rw[h3,fj (by simp;omega),<-cW P V,gN (by simp;omega)];simp
def PV{A V:List AV}{n i k:Nat}(hA:A.length=n*2)(hi:i<n)(hV:V.length=2)(hk:k=(n-i)*2):List.take (i*2) (bH (i*2) (List.take ((i+1)*2) (bH ((i+1)*2) A)++(List.take k (List.drop (i*2) (bH ((i+1)*2) A))++List.drop ((i+1)*2+k) (bH ((i+1)*2) A))))++(V++List.drop (i*2+2) (bH (i*2) (List.take ((i+1)*2) (bH ((i+1)*2) A)++(List.take k (List.drop (i*2) (bH ((i+1)*2) A))++List.drop ((i+1)*2+k) (bH ((i+1)*2) A)))))=List.take (i*2) A++(V++List.drop (i*2) A):=by
 have e1:bH ((i+1)*2) A=A:=fj O;have e2:List.take k (List.drop (i*2) A)=List.drop (i*2) A:=gv (by simp;omega);have e3:List.drop ((i+1)*2+k) A=[]:=gM O;rw[e1,e2,e3,gL];have l1:(List.take ((i+1)*2) A).length=(i+1)*2:=by simp;omega
 rw[fj (by simp;omega)];congr 1
 .rw[vi O,qY,eS O]
 .congr 1;rw[qU,l1,gM O,show i*2+2-(i+1)*2=0 by omega];simp
def UO(nx id:Nat)(hid:id<nx)(cs:List PC)(n i:Nat)(e:Nat×Nat)(hn:cs.length=n*2)(hi:i<=n)(hb:n<=1000000000000):bN 269 [.view id 0 n 2 none,.p (.int i),.p (.sl [lz e])] ⟨[(id,⟨157,2,cs.map .p⟩)],[],nx⟩ (.view nx 0 (n+1) 2 none) ⟨[(nx,⟨157,2,(cs.take (i*2)++[PC.int e.1,PC.int e.2]++cs.drop (i*2)).map .p⟩)],[],nx+1⟩:=by
 have hne:¬id=nx:=O;refine iX (pre:=[]) (post:=[_,_]) ae3 (λc h1 h2 h3=>?_) ?_
 .have jC:∀k:Int,0<=k->k<=4000000000000->IntKind.i64.wrap k=k:=λk h1 h2=>aG;refine aq [_] [] [(11,[(8,.w [])]),(15,[(8,.w [])])] [] func269 rfl ?_;have w1:IntKind.i64.wrap ((n:Int)+1)=(n:Int)+1:=jC _ O O;have w2:IntKind.i64.wrap ((n:Int)+1-(i:Int))=(n:Int)+1-(i:Int):=jC _ O O;have w3:IntKind.i64.wrap ((i:Int)+1)=(i:Int)+1:=jC _ O O;have t1:((n:Int)+1).toNat=n+1:=O;have t2:((n:Int)+1-(i:Int)).toNat=n+1-i:=O;have t3:((i:Int)+1).toNat=i+1:=O;have fE:¬nx=id:=O;by_cases c1:i=n
  .subst c1;have hcs:List.drop (i*2) (cs.map AV.p)=[]:=gM (by simp;omega);simp[results269,h1,hne,fE,hcs];refine⟨O,?_⟩;rcases iD c (i+1)with h|h
   .exact .inr ⟨O,O,O,[],H⟩
   .exact .inl ⟨h,[(nx,id)],H⟩
  .have e1:((i:Int)==(n:Int))=false:=by rw[kC];omega
   have kW:(cs.map AV.p).length=n*2:=by simp;omega
   by_cases c2:c<n+1
   .have e2:(decide ((c:Int)<(n:Int)+1))=true:=by simp;omega
    generalize hA:cs.map AV.p=A at*;have m1:Nat.min 1 (n+1-i)=1:=eS O;have m2:(n-i).min (i+(n+1-i)-(i+1))=n-i:=eS O;have key:=λR=>PU (V:=[.p (.int e.1),.p (.int e.2)]) (R:=R) (Z:=List.map AV.p (jD (n+1-i) [.sc (.int .i64 0),.sc (.int .i64 0)])) kW hi rfl (by simp[oC];omega) rfl;simp at key;simp[e1,w1,e2,w2,w3,t1,t2,t3,results269,hi,h1,hne,fE,m1,m2,key]
    repeat' refine And.intro ?_ ?_
    all_goals first|omega|skip
    refine⟨[],?_⟩;simp[hA];omega
   .have e2:(decide ((c:Int)<(n:Int)+1))=false:=by simp;omega
    generalize hA:cs.map AV.p=A at*;simp[e1,w1,e2,w2,w3,t1,t2,t3,results269,hi,h1,hne,fE];refine⟨O,O,O,O,sC ae2 (.inr rfl) (ob:=⟨157,2,A⟩) H rfl O H (by simp[uz]) ?_⟩;have m1:Nat.min 1 (n+1-i)=1:=eS O;have m4:(n+1-i).min (n-i)=n-i:=BF O;have key:=PV (V:=[.p (.int e.1),.p (.int e.2)]) kW (by omega:i<n) rfl rfl;simp at key;simp[e1,w1,e2,w2,w3,t1,t2,t3,results269,hi,h1,hne,fE,m1,m4,key]
    repeat' refine And.intro ?_ ?_
    all_goals first|omega|(rw[jW];omega)|skip
    exact⟨[(nx,id)],by simp[hA]⟩
 .intro hn0;have Ho:i=0:=O;have hc0:cs=[]:=o5 O;subst Ho;subst hc0;subst hn0;refine aq [_] [25] [(11,[(8,.w [])]),(15,[(8,.w [])])] [] func269 rfl ?_;simp[results269];exact⟨[],H⟩
abbrev Ext:=Nat×Nat
abbrev mj(L:List Ext):PC:= .sl (L.map lz)
def Ov(x:Int):cq 201 [.int x] (.bool false):=by
 refine ay [_] func201 rfl ?_;simp[results201]
def C_{n:Int}(h1:0<=n)(h2:n<=18446744073709551615):IntKind.u64.wrap n=n:=by
 have e:IntKind.u64.wrap n=n%18446744073709551616:=rfl;rw[e];omega
def vD(x y:Int):Int:=if x<y then-1 else if y<x then 1 else 0
def EG(x y:Int):cq 110 [.int x,.int y] (.int (vD x y)):=by
 refine ay [_] func110 rfl ?_;simp;refine cm (Ov x) ?_;simp;refine cm (Ov y) ?_;by_cases h:x<y
 .simp[h,results110,vD]
 .by_cases h2:y<x
  .simp[h,h2,results110,vD]
  .simp[h,h2,results110,vD]
def Ow(e:Ext)(t:Nat)(h1:e.1+e.2<=1000000)(h2:t<=1000000):cq 335 [lz e,.int t] (.int (vD ((e.1:Int)+(e.2:Int)) ((t:Int)+1))):=by
 have w1:IntKind.i64.wrap ((e.1:Int)+(e.2:Int))=((e.1+e.2:Nat):Int):=by rw[aG];simp
 have w2:IntKind.i64.wrap ((t:Int)+1)=((t+1:Nat):Int):=by rw[aG];simp
 refine ay [_] func335 rfl ?_;simp[w1,w2];refine cm (EG ((e.1:Int)+(e.2:Int)) ((t:Int)+1)) ?_;simp[results335]
def kO(L:List Ext)(t:Nat):Nat:=(L.takeWhile λe=>decide (e.1+e.2<=t)).length
def Up(L:List Ext):Prop:=L.Pairwise λa b=>a.1+a.2<=b.1+b.2
def alU{L:List Ext}(h:Up L){p q:Nat}(hpq:p<=q)(hq:q<L.length):L[p].1+L[p].2<=L[q].1+L[q].2:=by
 by_cases e:p=q
 .subst e;exact aX _
 .exact yJ.1 h p q O hq O
def Sk(L:List Ext)(t:Nat):kO L t<=L.length:=by unfold kO;exact(List.takeWhile_prefix _).length_le
def Ux{L:List Ext}{t i:Nat}(hi:i<=L.length)(h1:∀p (hp:p<L.length),p<i->L[p].1+L[p].2<=t)(h2:∀(hp:i<L.length),t<L[i].1+L[i].2):kO L t=i:=by
 induction L generalizing i with
 |nil=>simp at hi;subst hi;rfl
 |cons a L ih=>
  cases i with
  |zero=>
   have:=h2 H;simp only[yF]at this;have h:decide (a.1+a.2<=t)=false:=by simp;omega
   simp[kO,h]
  |succ i=>
   have ha:=h1 0 H O;simp at ha;have:=ih (i:=i) (U hi) (λp hp hpi=>by have:=h1 (p+1) (by simp;omega) O;simpa using this) (λhp=>by have:=h2 (by simp;omega);simpa using this);simp[kO,ha]at this⊢;exact this
def WY(L:List Ext)(t:Nat)(hL:Up L)(hl:L.length<=1000000)(hb:∀e∈L,e.1+e.2<=1000000)(ht:t<=1000000):cq 334 [mj L,.int t,.fn (.func 335) []] (.tp [.int (kO L t),.bool (decide (∃h:kO L t<L.length,L[kO L t].1+L[kO L t].2=t+1))]):=by
 refine ay [_,_] func334 rfl ?_;simp;refine bI (λij:Nat×Nat=>ij.1<=ij.2/\ij.2<=L.length/\(∀p (hp:p<L.length),p<ij.1->L[p].1+L[p].2<=t)/\(∀(hp:ij.2<L.length),t<L[ij.2].1+L[ij.2].2)) (λij=>[(0,.p (mj L)),(1,.p (.int t)),(2,.p (.fn (.func 335) [])),(8,.p (.int L.length)),(9,.p (.int ij.1)),(10,.p (.int ij.2))]) (λij=>ij.2-ij.1) (0,L.length) H (aB H) ?_;rintro⟨i,j⟩ ⟨h1,h2,h3,h4⟩;simp only at h1 h2 h3 h4;by_cases c:i<j
 .obtain⟨h,hh⟩:=mH ((i+j)/2);have w0:IntKind.i64.wrap ((i:Int)+(j:Int))=((i+j:Nat):Int):=by rw[aG];simp
  have hm:h<L.length:=O;have wm:IntKind.i64.wrap ((IntKind.u64.wrap ((i:Int)+(j:Int))).fdiv (2^min 1 IntKind.u64.bits))=(h:Int):=by
   have e1:IntKind.u64.wrap ((i:Int)+(j:Int))=((i+j:Nat):Int):=by exact C_ O O
   have e2:(2:Int)^min 1 IntKind.u64.bits=2:=rfl;rw[e1,e2,mP _ O,hh,aG];simp
  simp[c,w0,wm,hm];refine cm (Ow L[h] t (hb _ H) ht) ?_;by_cases c2:L[h].1+L[h].2<=t
  .have e2:decide (vD ((L[h].1:Int)+(L[h].2:Int)) ((t:Int)+1)<0)=true:=by
    have:(L[h].1:Int)+(L[h].2:Int)<(t:Int)+1:=O;simp[vD,this]
   simp[e2];refine⟨h+1,j,⟨O,h2,?_,h4⟩,O,aB ?_⟩
   .intro p hp hph;have:=alU hL (p:=p) (q:=h) O hm;omega
   .simp[aG (n:=(h:Int)+1)]
  .have e2:decide (vD ((L[h].1:Int)+(L[h].2:Int)) ((t:Int)+1)<0)=false:=by
    have:¬(L[h].1:Int)+(L[h].2:Int)<(t:Int)+1:=O;simp only[vD,this,dc];split<;>rfl
   simp[e2];exact⟨i,h,⟨O,O,h3,λ_=>O⟩,O,aB H⟩
 .have e:i=j:=O;subst e;have ea:kO L t=i:=Ux h2 h3 h4;by_cases c2:i<L.length
  .simp[c2];refine cm (Ow L[i] t (hb _ H) ht) ?_;simp[results334,ea,c2];rw[uO];simp only[eZ,ri,vD];split
   .constructor<;>intro<;>omega
   .split
    .constructor<;>intro<;>omega
    .constructor<;>intro<;>omega
  .simp[c2,results334,ea]
def A6(L:List Ext)(t:Nat)(hL:Up L)(hl:L.length<=1000000)(hb:∀e∈L,e.1+e.2<=1000000)(ht:t<=1000000):cq 267 [mj L,.int t] (.int (kO L t)):=by
 refine ay [_] func267 rfl ?_;simp;refine cm (WY L t hL hl hb ht) ?_;simp[results267]
def xV(L:List Ext):Nat:=(L.map (·.2)).sum
def WZ{L:List Ext}{k:Nat}(h:k<L.length):xV (L.take (k+1))=xV (L.take k)+L[k].2:=by
 unfold xV;rw[kG h,jB,List.sum_append];simp
def ahe{L:List Ext}(hb:∀e∈L,e.2<=1000000):xV L<=L.length*1000000:=by
 unfold xV
 induction L with
 |nil=>simp
 |cons a L ih=>
  have:=ih λe he=>hb e (by simp[he]);have:=hb a H;simp;omega
def ad4(L:List Ext)(hl:L.length<=1000000)(hb:∀e∈L,e.2<=1000000):cq 188 [mj L] (.int (xV L)):=by
 refine ay [_] func188 rfl ?_;simp;refine bI (λk:Nat=>k<=L.length) (λk=>[(6,.p (mj L)),(7,.p (.int L.length)),(8,.p (.int k)),(3,.p (.int (xV (L.take k))))]) (λk=>L.length-k) 0 H (aB (by simp[xV])) ?_;intro k hk;by_cases c:k<L.length
 .have b1:=ahe (L:=L.take k) λe he=>hb e (oa he);simp at b1;have b2:=hb L[k] H;have b3:min k L.length*1000000<=1000000*1000000:=yc _ O;have w:IntKind.i64.wrap ((xV (L.take k):Int)+(L[k].2:Int))=(xV (L.take (k+1)):Int):=by
   rw[WZ c,aG];simp
  simp[c];refine⟨k+1,O,O,aB ?_⟩;simp[w,aG (n:=(k:Int)+1)]
 .have e:k=L.length:=O;subst e;simp[results188]
def vR(L:List Ext)(e:Ext):Bool:=match L[kO L e.1]? with
 |some x=>decide (x.1<e.1+e.2)
 |none=>false
def hasB(L:List Ext)(e:Ext):Bool:=match L[kO L e.1]? with
 |some x=>decide (x.1<=e.1)&&decide (e.1+e.2<=x.1+x.2)
 |none=>false
def GQ(L:List Ext)(e:Ext)(hL:Up L)(hl:L.length<=1000000)(hb:∀e∈L,e.1+e.2<=1000000)(he:e.1+e.2<=1000000):cq 246 [mj L,lz e] (.bool (vR L e)):=by
 have w1:IntKind.i64.wrap ((e.1:Int)+(e.2:Int))=(e.1:Int)+(e.2:Int):=aG;refine ay [_] func246 rfl ?_;simp;refine cm (A6 L e.1 hL hl hb O) ?_;unfold vR;generalize kO L e.1=i;by_cases c:i<L.length
 .simp[c,w1,results246];omega
 .simp[c,results246]
def akX(L:List Ext)(e:Ext)(hL:Up L)(hl:L.length<=1000000)(hb:∀e∈L,e.1+e.2<=1000000)(he:e.1+e.2<=1000000):cq 264 [mj L,lz e] (.bool (hasB L e)):=by
 have w1:IntKind.i64.wrap ((e.1:Int)+(e.2:Int))=(e.1:Int)+(e.2:Int):=aG;refine ay [_] func264 rfl ?_;simp;refine cm (A6 L e.1 hL hl hb O) ?_;unfold hasB;generalize kO L e.1=i;by_cases c:i<L.length
 .have b:=hb L[i] H;have w2:IntKind.i64.wrap ((L[i].1:Int)+(L[i].2:Int))=(L[i].1:Int)+(L[i].2:Int):=aG;by_cases c2:L[i].1<=e.1
  .simp[c,c2,w1,w2,results264];omega
  .simp[c,c2,w1,w2,results264]
 .simp[c,results264]
end Go.Av
