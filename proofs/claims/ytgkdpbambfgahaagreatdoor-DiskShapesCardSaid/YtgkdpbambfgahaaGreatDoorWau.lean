/- DiskShapes, part 21: what functions compute, and its plain law; no condition. -/
import Derived.Test.YtgkdpbambfgahaaGreatDoorWat
set_option linter.all false
set_option maxRecDepth 100000
set_option maxHeartbeats 64000000
namespace Go.Av
open Go.Proofs Go.Proofs.Tryz Go.cC
@[reducible]def zW(n:Nd):PC:=dn n.lf n.ks n.vs
@[reducible]def itP(x:Key×Int):PC:= .agg false [.str x.1,.int x.2]
@[reducible]def adv(l:ke):PC:= .sl (l.map itP)
theorem Rk(key:Key)(v:Int):aq prog 237 [.str key,.int v] (.bool (lH key v)):=by
 refine ai (ys:=[_]) [] [] [] func237 rfl ?_;by_cases c1:key=[]
 ·subst c1;simp[lH,results237]
 have h1:1<=key.length:=by cases key with|nil=>exact absurd rfl c1|cons=>simp
 have hne:(key !=[])=true:=by simpa using c1
 by_cases c2:key.length<=100
 ·have dM:(key.length:Int)<=100:=by omega
  by_cases c3:0<=v
  ·by_cases c4:v<=1099511627775
   ·have kT:v<1099511627776:=by omega
    simp[hne,c2,dM,c3,c4,kT,h1,lH,results237]
   ·have kT:¬v<1099511627776:=by omega
    simp[hne,c2,dM,c3,c4,kT,h1,lH,results237]
  ·simp[hne,c2,dM,c3,h1,lH,results237]
 ·have dM:¬(key.length:Int)<=100:=by omega
  simp[hne,c2,dM,h1,lH,results237]
theorem WZ(k lo:Key)(hi:Option Key):aq prog 372 [.str k,.ref (.str lo),.ref (.bool hi.isSome),.ref (.str (hi.getD []))] (.bool (!(!Op.bytesLess k lo&&(match hi with|some h=>Op.bytesLess k h|none=>true)))):=by
 refine ai (ys:=[_]) [] [] [] func372 rfl ?_;by_cases c1:Op.bytesLess k lo=true
 ·simp[c1,results372]
 have iP:Op.bytesLess k lo=false:=by simpa using c1
 cases hi with
 |none=>simp[iP,results372]
 |some h=>simp[iP,results372]
theorem W0(n:Nd)(lo:Key)(hi:Option Key)(hk:n.ks.length<=9223372036854775807):aq prog 333 [zW n,.str lo,.str (hi.getD []),.bool hi.isSome] (.bool (rP n lo hi)):=by
 refine ai (ys:=[_]) [] [] [] func333 rfl ?_;simp;refine bS (xX _ n.ks hk fun s _=>WZ s lo hi) ?_;simp[results333,rP,List.all_eq_not_any_not];cases hi<;>rfl
theorem DW:∀(ks:List Key),chn ks->Cp ks=true
 |[],_=>rfl
 |[_],_=>rfl
 |a::b::l,h=>by simp only[Cp,Bool.and_eq_true];exact⟨h.1,DW (b::l) h.2⟩
theorem Gj(n:Nd):fE n.lf n.ks n.vs=true↔Right n:=by
 constructor
 ·intro h;have hc:=ri h;simp only[fE,Bool.and_eq_true,decide_eq_true_eq,List.all_eq_true,List.mem_range,Bool.or_eq_true]at h;obtain⟨⟨⟨⟨h1,h2⟩,h3⟩,h4⟩,h5⟩:=h;refine⟨(yU _).1 (DW _ hc.1),fun k hk=>?_,fun v hv=>?_,h1,by simpa[pN]using h2,fun hl=>?_⟩
  ·obtain⟨i,hi,rfl⟩:=List.getElem_of_mem hk;have:=h4 i hi;simp only[kB,Bool.and_eq_true,decide_eq_true_eq,pR,kq hi,Option.getD_some]at this;exact this.1
  ·have:=h5 v hv;simpa[vB,vOk]using this
  ·rcases h3 with h3|h3
   ·rw[hl]at h3;cases h3
   ·exact h3
 ·intro h;simp only[fE,Bool.and_eq_true,decide_eq_true_eq,List.all_eq_true,List.mem_range,Bool.or_eq_true];refine⟨⟨⟨⟨h.len,by simpa[pN]using h.form⟩,?_⟩,fun i hi=>?_⟩,fun v hv=>by have:=h.vals v hv;simpa[vB,vOk]using this⟩
  ·cases hl:n.lf with
   |true=>exact .inl rfl
   |false=>exact .inr (h.inner hl)
  ·have hk:=h.keys _ (List.getElem_mem hi);simp only[kB,Bool.and_eq_true,decide_eq_true_eq,pR,kq hi,Option.getD_some,Bool.or_eq_true,beq_iff_eq];refine⟨hk,?_⟩;rcases Nat.eq_zero_or_pos i with h0|h0
   ·exact .inl h0
   ·right;rw[kq (by omega)];exact xL h.NK (by omega) hi
theorem mL(n:Nd):fE n.lf n.ks n.vs=rB n:=by rw[Bool.eq_iff_iff,Gj,lC]
def lD(v:Int):Prop:=-9223372036854775808<=v/\v<=9223372036854775807
theorem NL(n:Nd)(key:Key)(hk:n.ks.length<=1000000):aq prog 315 [zW n,.str key] (.int (dy n key:Nat)):=Ry n.lf n.ks n.vs key (by omega)
theorem Uv(n:Nd)(key:Key)(hk:n.ks.length<=1000000):aq prog 239 [zW n,.str key] (.tp [.int (bV n key:Nat),.bool (tw n key)]):=Wx n.lf n.ks n.vs key (by omega)
structure nS(n:Nd):Prop where
 ks:n.ks.length<=500
 vs:n.vs.length<=500
 keys:∀k∈n.ks,k.length<=1000000
theorem Sg{n:Nd}(h:nS n):nS (gS n):=by
 unfold gS;split
 ·exact⟨by have:=h.ks;simp[jX];omega,by have:=h.vs;simp[jX];omega,fun k hk=>h.keys k (jH hk)⟩
 ·exact h
theorem Sh{n:Nd}(h:nS n):nS (lG n):=by
 unfold lG;split
 ·exact⟨by have:=h.ks;simp[jY];omega,by have:=h.vs;simp[jY];omega,fun k hk=>h.keys k (List.mem_of_mem_drop hk)⟩
 ·exact⟨by simp,by simp,by simp⟩
theorem splitB(n:Nd)(hn:nS n)(h4:4<n.ks.length):aq prog 323 [zW n] (.tp [zW (gS n),.str (sy n),zW (lG n)]):=by
 have h:=Si n.lf n.ks n.vs (by have:=hn.ks;omega) (by have:=hn.vs;omega);have e:vj n.lf n.ks n.vs= .tp [zW (gS n),.str (sy n),zW (lG n)]:=by
  unfold vj gS lG sy Fz pN;by_cases c:(n.vs.length==n.ks.length+(if n.lf then 0 else 1))=true
  ·rw[c];have:decide (2<=n.ks.length)=true:=by simp;omega
   simp only[this,Bool.and_true,if_true];rfl
  ·have c':(n.vs.length==n.ks.length+(if n.lf then 0 else 1))=false:=Bool.eq_false_iff.2 c;rw[c'];simp
 rwa[e]at h
theorem WY(n:Nd)(c:Nat)(p:Int)(hn:nS n)(hc:c<n.vs.length):aq prog 327 [zW n,.int c,.int p] (zW (lY n c p)):=by
 have h2:=hn.vs;have iB:=DX 2 (n.vs.map PC.int) (by simp) (by simp) (by simp;omega);refine bI (xs:=[_,_,_]) (r:= .agg false [.p (.bool n.lf),.p (.sl (n.ks.map PC.str)),.view 0 0 n.vs.length 1 none]) (aM:=⟨[(0,⟨3,1,((n.vs.set c p).map PC.int).map .p⟩)],[],1⟩) ?_ ?_
 ·refine ah (rs:=[_]) [3] [] [] func327 rfl ?_;simp;refine aA iB (by simp) trivial trivial rfl ?_;have ec:(n.vs.map PC.int).flatMap ga=n.vs.map PC.int:=by
   induction n.vs with
   |nil=>rfl
   |cons x l ih=>simp[ih]
  have sc:List.take c (n.vs.map (AV.p∘PC.int))++AV.p (PC.int p)::List.drop (c+1) (n.vs.map (AV.p∘PC.int))=(n.vs.map (AV.p∘PC.int)).set c (AV.p (PC.int p)):=by
   rw[List.set_eq_take_append_cons_drop,if_pos (by simpa using hc)]
  have ls:AV.fD.eM 1 ((n.vs.map (AV.p∘PC.int)).set c (AV.p (PC.int p)))=true:=by
   rw[show(n.vs.map (AV.p∘PC.int)).set c (AV.p (PC.int p))=(n.vs.set c p).map (AV.p∘PC.int) by simp];exact Sj
  simp[ec,hc,sc,results327];exact⟨by omega,[(0,2)],by simp[ls]⟩
 ·obtain⟨V,hV⟩:∃V,V=n.vs.set c p:=⟨_,rfl⟩;have hl:V.length=n.vs.length:=by rw[hV,List.length_set]
  have e:lY n c p=⟨n.lf,n.ks,V⟩:=by rw[hV];rfl
  rw[e,<-hV,<-hl];simp[cQ,gY,UN]
theorem Rm(n:Nd)(i:Nat)(key:Key)(us:List Int)(hn:nS n)(hu:us.length<=1000)(hf:Fz n=true)(hi:i<=n.ks.length):aq prog 242 [zW n,.int i,.str key,.sl (us.map PC.int)] (zW (gC n i key us)):=by
 have h:=NM n.lf n.ks n.vs i key us (by have:=hn.ks;omega) (by have:=hn.vs;omega) (by omega);have ok:tW n.lf n.ks n.vs i=true:=by
  unfold tW pN;have hf':=hf;unfold Fz at hf';rw[hf'];simp;omega
 unfold H9 H_ at h;rw[ok]at h;simp only[if_true,Int.toNat_natCast]at h;simpa[gC]using h
theorem aiL(n:Nd)(i:Nat)(hn:nS n)(hf:Fz n=true)(hi:i<n.ks.length):aq prog 240 [zW n,.int i] (zW (nQ n i)):=by
 have h:=NP n.lf n.ks n.vs i (by have:=hn.ks;omega) (by have:=hn.vs;omega);have ok:tX n.lf n.ks n.vs i=true:=by
  unfold tX pN;have hf':=hf;unfold Fz at hf';rw[hf'];simp;omega
 unfold Ia Ib at h;rw[ok]at h;simp only[if_true,Int.toNat_natCast]at h;simpa[nQ,bh]using h
structure JY(x:Step):Prop where
 rt:Right x.n
 inn:x.n.lf=false
 c:x.c<=x.n.ks.length
 p:lD x.p
theorem k8{n:Nd}(h:Right n):nS n:=by
 have h1:=h.len;have h2:=h.form;exact⟨by omega,by rw[h2];split<;>omega,fun k hk=>by have:=(h.keys k hk).2;omega⟩
theorem yt{n:Nd}(h:Right n):Fz n=true:=by unfold Fz;rw[h.form];simp
theorem xE{n:Nd}{i:Nat}{key:Key}{us:List Int}(h:nS n)(hk:key.length<=1000000)(hk2:n.ks.length<=100)(yf:n.vs.length<=100)(hu:us.length<=100):nS (gC n i key us):=by
 refine⟨by simp[gC];omega,by simp[gC];split<;>omega,fun k hk'=>?_⟩;simp only[gC,iR,List.mem_cons]at hk';rcases hk' with hk'|rfl|hk'
 ·exact h.keys k (jH hk')
 ·exact hk
 ·exact h.keys k (List.mem_of_mem_drop hk')
end Go.Av
namespace Go.aT
open Go.Av
open Go.cC (Nd rB nZ)
theorem Me{b:Nat}{D:aN}(h:dO b D)(a:Int):dO b (fZ D a).1/\(fZ D a).1.kept=D.kept/\(fZ D a).1.now=D.now:=by
 have h1:=h.read a 8;have h2:(D.read a 8).1.kept=D.kept/\(D.read a 8).1.now=D.now:=by
  unfold aN.read;split
  ·split<;>(unfold aN.next;split<;>simp)
  ·simp
 unfold fZ;split<;>exact⟨h1,h2⟩
theorem jU.dev{t:Nat}{s:St}(h:jU t s){t':Nat}(ht:t<=t'){D:aN}(hD:dO (t'*t') D)(hk:D.kept.length=s.D.kept.length):jU t' {s with D:=D}:={h.up ht with D:=hD,sz:=by simp only[hk];exact h.sz,Jf:=by simp only[hk];exact h.Jf}
structure fL(t:Nat)(c:Cs):Prop where
 s:jU t c.s
 saved:c.saved.length<=t
 sav:∀p∈c.saved,0<=p/\p<=65536
 old:c.old.length<=t
 olb:∀p∈c.old,-9223372036854775808<=p/\p<=9223372036854775807
theorem fL.up{t t':Nat}{c:Cs}(h:fL t c)(ht:t<=t'):fL t' c:=⟨h.s.up ht,Nat.le_trans h.saved ht,h.sav,Nat.le_trans h.old ht,h.olb⟩
theorem fL.ld{t:Nat}{c:Cs}(h:fL t c)(p:Int):fL t (c.ld p).1:=by
 have key:fL t (c.dev (fZ c.s.D (xB c.s.jn (p-1))).1):=by
  obtain⟨h1,h2,_⟩:=Me h.s.D (xB c.s.jn (p-1));exact{h with s:=h.s.dev (Nat.le_refl _) h1 (by rw[h2])}
 unfold Cs.ld;split
 ·exact h
 ·split
  ·split<;>exact key
  ·exact key
theorem fL.dr{t:Nat}{c:Cs}(h:fL t c)(p:Int):fL (t+1) (c.dr p):=by
 have h':=h.up (Nat.le_add_right t 1);refine⟨h'.s,h'.saved,h'.sav,by have:=h.old;simp[Cs.dr];omega,fun q hq=>?_⟩;simp only[Cs.dr,iR,List.mem_singleton]at hq;rcases hq with hq|rfl
 ·exact h.olb q hq
 ·exact uT _
theorem Jg(b:List UInt8):(mU b).2.1.length<=b.length/\-9223372036854775808<=(mU b).2.2/\(mU b).2.2<=9223372036854775807:=by
 have ho:(dY b).1.length<=b.length:=by
  unfold dY;split
  ·simp
  ·split
   ·simp
   ·simp
 unfold mU;split
 ·simp
 ·simp only;split
  ·simp
  ·simp;omega
theorem Jh{b:Nat}{D:aN}(h:dO b D)(a:Int):(fZ D a).2.2.1.length<=4194304:=by
 obtain⟨r1,r2⟩:=Go.Av.AB D b h a 8;unfold fZ;split
 ·have h1:=(Jg (D.read a 8).2.1.flatten).1;rw[Go.Av.Dl _ r1]at h1;simp only;omega
 ·simp
end Go.aT
namespace Go.Av
open Go.Proofs Go.Proofs.Tryz Go.aT
open Go.cC (Nd rB nZ)
theorem QY(b:List UInt8)(hb:b.length<=9223372036854775807):aq prog 431 [cy b] (.tp [zW (pG b).1,.int (pG b).2]):=by
 have h:=Mf b hb;unfold upP at h;unfold pG;by_cases c:xd (gP (b,false) 1).1 (s9 (gP (gP (b,false) 1).2 1).1 (gP (gP (b,false) 1).2 1).2).1 (Hx (gP (b,false) 1).1 (gP (gP (b,false) 1).2 1).1 (s9 (gP (gP (b,false) 1).2 1).1 (gP (gP (b,false) 1).2 1).2).2).1 (Hx (gP (b,false) 1).1 (gP (gP (b,false) 1).2 1).1 (s9 (gP (gP (b,false) 1).2 1).1 (gP (gP (b,false) 1).2 1).2).2).2=true
 ·rw[if_pos c]at h⊢;exact h
 ·rw[if_neg c]at h⊢;exact h
theorem QZ(t:Nat)(c:Cs)(h:fL t c)(p:Int)(hp:-9223372036854775808<=p/\p<=9223372036854775807):aE prog 428 [.obj 7 0,.p (.int p)] ⟨sS 0 8 c,kY 8,20⟩ (.agg true [.p (zW (c.ld p).2.1),.p (.int (c.ld p).2.2)]) ⟨sS 0 20 (c.ld p).1,kY 20,32⟩:=by
 obtain⟨Z,hZ⟩:∃Z,c.ld p=Z:=⟨_,rfl⟩;rw[hZ];unfold Cs.ld at hZ;refine ah (rs:=[_,_]) [] [(3,[(3,.r 1),(7,.r 2),(11,.r 1),(14,.r 2),(15,.w [1,2]),(20,.w [1,2])])] [(1,7),(2,6)] func428 rfl ?_;by_cases c1:p<1
 ·rw[if_pos (.inl c1)]at hZ;rw[<-hZ];simp[-az,bO,sS,AE,aG,aj,cM,bR,bN,cz,c1,nZ,results428];exact⟨[(20,8),(21,9),(22,10),(23,11),(24,12),(25,13),(26,14),(27,15),(28,16),(29,17),(30,18),(31,19)],by simp⟩
 by_cases c2:c.s.pn<p
 ·rw[if_pos (.inr c2)]at hZ;rw[<-hZ];simp[-az,bO,sS,AE,aG,aj,cM,bR,bN,cz,c1,c2,nZ,results428];exact⟨[(20,8),(21,9),(22,10),(23,11),(24,12),(25,13),(26,14),(27,15),(28,16),(29,17),(30,18),(31,19)],by simp⟩
 rw[if_neg (by omega)]at hZ;have Q0:=h.s.pn;have hjn:=h.s.jn;have w1:IntKind.i64.wrap (p-1)=p-1:=aD;have w2:IntKind.i64.wrap ((p-1)*8)=(p-1)*8:=aD;have w3:IntKind.i64.wrap (1+c.s.jn+(p-1)*8)=1+c.s.jn+(p-1)*8:=aD;have FQ:=yb c.s.jn c.s.pn (by omega);have hrd:=Mg c.s.D (t*t) h.s.D (1+c.s.jn+(p-1)*8) (by omega);have pH:=Jh h.s.D (xB c.s.jn (p-1));rw[show 1+c.s.jn+(p-1)*8=xB c.s.jn (p-1)from rfl]at hrd;obtain⟨R,hR⟩:∃R,fZ c.s.D (xB c.s.jn (p-1))=R:=⟨_,rfl⟩;rw[hR]at hrd hZ pH;obtain⟨D',kind,b,e⟩:=R;simp only at hrd hZ pH;have hU:=QY b (by omega);obtain⟨U,hUe⟩:∃U,pG b=U:=⟨_,rfl⟩;rw[hUe]at hU hZ;obtain⟨n,e2⟩:=U;simp only at hU hZ;simp[bO,sS,AE,aG,aj,cM,bR,bN,cz,c1,c2];refine jI [0] FQ ?_;simp[w1,w2,w3];refine bq [0,1,2,8] hrd (by simp) (by simp[xB]) (by simp[ay,aj]) (by simp[ay]) ?_;by_cases c3:e=0
 ·subst c3;rw[if_pos rfl]at hZ;simp[aj];refine bS hU ?_;by_cases c4:e2=0
  ·subst c4;rw[if_pos rfl]at hZ;rw[<-hZ];simp[-az,Cs.dev,results428];exact⟨[(20,21),(21,9),(22,10),(23,11),(24,12),(25,13),(26,14),(27,15),(28,16),(29,17),(30,18),(31,19)],by simp⟩
  ·rw[if_neg c4]at hZ;rw[<-hZ];have kT:(e2 !=0)=true:=by simpa using c4
   simp[-az,Cs.dev,results428,kT,nZ];exact⟨[(20,21),(21,9),(22,10),(23,11),(24,12),(25,13),(26,14),(27,15),(28,16),(29,17),(30,18),(31,19)],by simp⟩
 ·rw[if_neg c3]at hZ;rw[<-hZ];have j_:(e !=0)=true:=by simpa using c3
  simp[-az,Cs.dev,aj,results428,j_,nZ];exact⟨[(20,21),(21,9),(22,10),(23,11),(24,12),(25,13),(26,14),(27,15),(28,16),(29,17),(30,18),(31,19)],by simp⟩
end Go.Av
namespace Go.aT
open Go.Av
def seg(L:List dh)(a n:Nat):List dh:=(L.drop a).take n
def ov(L:List dh)(a:Nat)(l:List dh):List dh:=L.take a++(l++L.drop (a+l.length))
theorem rE(L:List dh)(a n i:Nat):(seg L a n)[i]?=if i<n then L[a+i]? else none:=by
 unfold seg;rw[List.getElem?_take];split
 ·rw[List.getElem?_drop]
 ·rfl
theorem nT{L l:List dh}{a:Nat}(h:a+l.length<=L.length):(ov L a l).length=L.length:=by simp[ov];omega
theorem CT{L l:List dh}{a:Nat}(h:a+l.length<=L.length)(i:Nat):(ov L a l)[i]?=if i<a then L[i]? else if i<a+l.length then l[i-a]? else L[i]?:=by
 unfold ov;by_cases c1:i<a
 ·rw[if_pos c1,List.getElem?_append_left (by simp;omega),List.getElem?_take,if_pos c1]
 ·rw[if_neg c1,List.getElem?_append_right (by simp;omega)];have e:(L.take a).length=a:=by simp;omega
  rw[e];by_cases c2:i<a+l.length
  ·rw[if_pos c2,List.getElem?_append_left (by omega)]
  ·rw[if_neg c2,List.getElem?_append_right (by omega),List.getElem?_drop];congr 1;omega
theorem dQ{L l:List dh}{a:Nat}(h:a+l.length<=L.length):seg (ov L a l) a l.length=l:=by
 apply List.ext_getElem?;intro i;rw[rE,CT h];by_cases c:i<l.length
 ·rw[if_pos c,if_neg (by omega),if_pos (by omega)];congr 1;omega
 ·rw[if_neg c];exact(List.getElem?_eq_none (by omega)).symm
theorem aV{L l:List dh}{a b n:Nat}(h:a+l.length<=L.length)(hb:b+n<=a\/a+l.length<=b):seg (ov L a l) b n=seg L b n:=by
 apply List.ext_getElem?;intro i;rw[rE,rE,CT h];by_cases c:i<n
 ·rw[if_pos c,if_pos c];rcases hb with hb|hb
  ·rw[if_pos (by omega)]
  ·rw[if_neg (by omega),if_neg (by omega)]
 ·rw[if_neg c,if_neg c]
theorem kU(L:List dh)(a m n:Nat):seg L a (m+n)=seg L a m++seg L (a+m) n:=by
 unfold seg;rw[List.take_add,List.drop_drop]
theorem RD{L:List dh}{a n:Nat}(h:a+n<=L.length):(seg L a n).length=n:=by simp[seg];omega
theorem rq(L:List dh)(a n b m:Nat)(h:b+m<=n):seg (seg L a n) b m=seg L (a+b) m:=by
 apply List.ext_getElem?;intro i;rw[rE,rE,rE];by_cases c:i<m
 ·rw[if_pos c,if_pos c,if_pos (by omega)];congr 1;omega
 ·rw[if_neg c,if_neg c]
theorem GI(L:List dh)(a:Nat)(b:dh)(l:List dh)(h:a+1+l.length<=L.length):ov (L.set a b) (a+1) l=ov L a (b::l):=by
 apply List.ext_getElem?;intro i;rw[CT (by simp;omega),CT (by simp;omega),List.length_cons];by_cases c1:i<a
 ·rw[if_pos (by omega),if_pos c1,List.getElem?_set_ne (by omega)]
 ·by_cases c2:i=a
  ·subst c2;rw[if_pos (by omega),if_neg c1,if_pos (by omega),List.getElem?_set_self (by omega)];simp
  ·rw[if_neg (by omega),if_neg c1];by_cases c3:i<a+1+l.length
   ·rw[if_pos c3,if_pos (by omega)];obtain⟨j,rfl⟩:∃j,i=a+1+j:=⟨i-(a+1),by omega⟩;rw[show a+1+j-(a+1)=j by omega,show a+1+j-a=j+1 by omega,List.getElem?_cons_succ]
   ·rw[if_neg c3,if_neg (by omega),List.getElem?_set_ne (by omega)]
theorem GH(L:List dh)(a:Nat):ov L a []=L:=by simp[ov]
structure Gd(N:Nat)(D:aN):Prop where
 left:D.left=-1
 bad:D.bad=[]
 kl:D.kept.length=N
 nl:D.now.length=N
 n:-9223372036854775808<=D.n/\D.n<=9223372036854775807
 k64:∀s∈D.kept,s.length=64
 n64:∀s∈D.now,s.length=64
 qs:∀w∈D.q,w.1<N/\w.2.length=64
 inv:∀i,(∀w∈D.q,w.1≠i)->D.kept[i]?=D.now[i]?
theorem Gd.FC{N b:Nat}{D:aN}(h:Gd N D)(hN:1<=N/\N<=65536)(hq:D.q.length<=b):dO b D:=⟨h.nl.trans h.kl.symm,by rw[h.kl];exact hN.1,by rw[h.kl];exact hN.2,h.k64,h.n64,hq,fun w hw=>by rw[h.kl];exact h.qs w hw,by rw[h.left];omega,h.n,by rw[h.bad];simp⟩
theorem Gd.next{N:Nat}{D:aN}(h:Gd N D):D.next.2=0/\Gd N D.next.1/\D.next.1.now=D.now/\D.next.1.kept=D.kept/\D.next.1.q=D.q:=by
 have hl:=h.left;have hb:=h.bad;unfold aN.next;rw[if_neg (by omega)];have hw:=uT (D.n+1);refine⟨by simp[hb],⟨by simp only;rw[if_pos (by omega)],hb,h.kl,h.nl,hw,h.k64,h.n64,h.qs,h.inv⟩,rfl,rfl,rfl⟩
theorem Gd.lay{N:Nat}:∀(l:List dh) (a:Nat) {D:aN},Gd N D->a+l.length<=N->(∀s∈l,s.length=64)->Gd N (D.lay a l)/\(D.lay a l).now=ov D.now a l/\(D.lay a l).kept=D.kept/\(D.lay a l).q.length=D.q.length+l.length
 |[],a,D,h,_,_=>⟨h,(GH _ _).symm,rfl,rfl⟩
 |b::l,a,D,h,ha,hl=>by
  rw[List.length_cons]at ha;have h':Gd N {D with q:=D.q++[(a,b)],now:=D.now.set a b}:=by
   refine⟨h.left,h.bad,h.kl,by simp[h.nl],h.n,h.k64,fun s hs=>?_,fun w hw=>?_,fun i hi=>?_⟩
   ·rcases List.mem_or_eq_of_mem_set hs with hs|rfl
    ·exact h.n64 s hs
    ·exact hl _ (by simp)
   ·rcases iR.1 hw with hw|hw
    ·exact h.qs w hw
    ·simp at hw;subst hw;exact⟨by omega,hl _ (by simp)⟩
   ·have hia:a≠i:=by have:=hi (a,b) (by simp);simpa using this
    rw[List.getElem?_set_ne hia];exact h.inv i fun w hw=>hi w (by simp[hw])
  obtain⟨k1,k2,k3,k4⟩:=Gd.lay l (a+1) h' (by omega) (fun s hs=>hl s (by simp[hs]));refine⟨k1,?_,k3,?_⟩
  ·show(aN.lay _ (a+1) l).now=_;rw[k2];exact GI _ _ _ _ (by rw[h.nl];omega)
  ·show(aN.lay _ (a+1) l).q.length=_;rw[k4];simp;omega
theorem Gd.there{N:Nat}{D:aN}(h:Gd N D){a n:Nat}(ha:a+n<=N):D.there a n=true:=by
 unfold aN.there;rw[h.kl];simp only[Bool.and_eq_true,decide_eq_true_eq];omega
theorem Gd.write{N:Nat}{D:aN}(h:Gd N D){a:Nat}{l:List dh}(ha:a+l.length<=N)(hl:∀s∈l,s.length=64):(D.write a l).2=0/\Gd N (D.write a l).1/\(D.write a l).1.now=ov D.now a l/\(D.write a l).1.kept=D.kept/\(D.write a l).1.q.length=D.q.length+l.length:=by
 obtain⟨h1,h2,h3,h4,h5⟩:=h.next;unfold aN.write;rw[if_pos ⟨h.there ha,by rw[List.all_eq_true];intro b hb;simp[hl b hb]⟩,if_pos h1];obtain⟨k1,k2,k3,k4⟩:=Gd.lay l a h2 ha hl;refine⟨rfl,?_,?_,?_,?_⟩
 ·simpa using k1
 ·simp only[Int.toNat_natCast];rw[k2,h3]
 ·simp only[Int.toNat_natCast];rw[k3,h4]
 ·simp only[Int.toNat_natCast];rw[k4,h5]
theorem Gd.read{N:Nat}{D:aN}(h:Gd N D){a n:Nat}(ha:a+n<=N):(D.read a n).2=(seg D.now a n,0)/\Gd N (D.read a n).1/\(D.read a n).1.now=D.now/\(D.read a n).1.kept=D.kept/\(D.read a n).1.q=D.q:=by
 obtain⟨h1,h2,h3,h4,h5⟩:=h.next;unfold aN.read;rw[if_pos (h.there ha),if_pos h1];exact⟨rfl,h2,h3,h4,h5⟩
theorem wL(now:List dh):∀(q:List (Nat×dh)) (k:List dh),k.length=now.length->(∀w∈q,w.1<now.length)->(∀i,(∀w∈q,w.1≠i)->k[i]?=now[i]?)->dz now q k=now
 |[],k,_,_,h=>List.ext_getElem? fun i=>h i (by simp)
 |w::q,k,hl,hq,h=>by
  unfold dz;refine wL now q _ (by simpa using hl) (fun v hv=>hq v (by simp[hv])) fun i hi=>?_;have hw:=hq w (by simp);by_cases c:w.1=i
  ·subst c;rw[List.getElem?_set_self (by omega)];simp[List.getD,hw]
  ·rw[List.getElem?_set_ne c];refine h i fun v hv=>?_;rcases List.mem_cons.1 hv with rfl|hv
   ·exact c
   ·exact hi v hv
theorem Gd.flush{N:Nat}{D:aN}(h:Gd N D):D.flush.2=0/\Gd N D.flush.1/\D.flush.1.now=D.now/\D.flush.1.kept=D.now/\D.flush.1.q=[]:=by
 obtain⟨h1,h2,h3,h4,h5⟩:=h.next;unfold aN.flush;rw[if_pos h1];have hs:dz D.next.1.now D.next.1.q D.next.1.kept=D.next.1.now:=wL _ _ _ (h2.kl.trans h2.nl.symm) (fun w hw=>by rw[h2.nl];exact(h2.qs w hw).1) h2.inv;refine⟨rfl,⟨h2.left,h2.bad,?_,h2.nl,h2.n,?_,h2.n64,by simp[aN.settle],?_⟩,h3,?_,rfl⟩
 ·simp only[aN.settle];rw[hs];exact h2.nl
 ·simp only[aN.settle];rw[hs];exact h2.n64
 ·intro i _;simp only[aN.settle];rw[hs]
 ·simp only[aN.settle];rw[hs,h3]
theorem Gd.same{N:Nat}{D:aN}(h:Gd N D)(hq:D.q=[]):D.kept=D.now:=List.ext_getElem? fun i=>h.inv i (by rw[hq];simp)
theorem Gd.iX{N:Nat}{D:aN}(h:Gd N D)(hq:D.q=[]):Gd N D.iX/\D.iX.now=D.now/\D.iX.q=[]:=by
 have hs:=h.same hq;unfold aN.iX;rw[hq];refine⟨⟨rfl,rfl,h.kl,?_,by simp,h.k64,?_,by simp,?_⟩,rfl,rfl⟩
 ·exact h.nl
 ·exact h.n64
 ·intro i _;exact h.inv i (by rw[hq];simp)
theorem Gd.made{N:Nat}:Gd N (aN.made N):=by
 refine⟨rfl,rfl,by simp[aN.made],by simp[aN.made],by simp[aN.made],fun s hs=>?_,fun s hs=>?_,by simp[aN.made],fun i _=>rfl⟩
 ·simp[aN.made]at hs;rw[hs.2];simp[Go.Av.kI]
 ·simp[aN.made]at hs;rw[hs.2];simp[Go.Av.kI]
end Go.aT
namespace Go.Av
open Go.Proofs Go.Proofs.Tryz Go.aT
open Go.cC (Nd rB nZ)
theorem Rr(t:Nat)(c:Cs)(h:fL t c)(ht:t<=30000)(p:Int):aE prog 427 [.obj 7 0,.p (.int p)] ⟨sS 0 8 c,kY 8,20⟩ (.agg true []) ⟨sS 0 20 (c.dr p),kY 20,32⟩:=by
 have ho:=h.old;refine ah (rs:=[]) [] [] [] func427 rfl ?_;simp[-az,bO,sS,AE,aG,aj,cM,bR,bN,cz,results427];exact⟨by omega,by omega,[(20,8),(21,9),(22,10),(23,11),(24,12),(25,13),(26,14),(27,15),(28,16),(29,17),(30,18),(31,20)],by simp[Cs.dr]⟩
theorem yA(M:Mp)(k:Int):(∀p (hp:p<M.F.length),p<M.run k->¬k<=(M.F[p].2:Int))/\∀h:M.run k<M.F.length,k<=(M.F[M.run k].2:Int):=by
 unfold Mp.run;obtain⟨h1,h2⟩:=Go.cC.Rs (fun e:Ext=>!decide (k<=(e.2:Int))) M.F;refine⟨fun p hp hlt=>?_,fun h=>?_⟩
 ·have:=h1 M.F[p] (List.mem_take_iff_getElem.2 ⟨p,by omega,rfl⟩);simpa using this
 ·have:=h2 h;simpa using this
theorem xH(m f r w nx:Nat)(h:LZ m f r w nx)(M:Mp)(hM:su M)(k:Nat)(hk:1<=k)(hr:M.run k<M.F.length):aE prog 227 [.obj m 0,.p (.int k)] ⟨dG m f r w M.n M.F M.R M.W,[],nx⟩ (.agg true [.p (kG (M.take k).2.1),.p (.bool true)]) ⟨dG m nx (nx+1) w M.n (M.take k).1.F (M.take k).1.R (M.take k).1.W,[],nx+2⟩:=by
 obtain⟨h1,h2⟩:=yA M k;have hc:=V3 m f r w nx M.n h M.F M.R M.W k (M.run k) (hM.F.Lx hM.n) (hM.R.Lx hM.n) hk hr (by have:=h2 hr;omega) (fun p hp hlt=>by have:=h1 p hp hlt;omega);have e:M.take k=({M with F:=fN M.F (M.F[M.run k].1,k),R:=gy M.R (M.F[M.run k].1,k)},((M.F[M.run k].1:Int),(k:Int)),true):=by
  unfold Mp.take;rw[if_pos ⟨by omega,hr⟩];simp[hr]
 rw[e];exact hc
theorem MU(m f r w nx:Nat)(h:LZ m f r w nx)(M:Mp)(hM:su M)(k:Int)(hr:¬(1<=k/\M.run k<M.F.length)):aE prog 227 [.obj m 0,.p (.int k)] ⟨dG m f r w M.n M.F M.R M.W,[],nx⟩ (.agg true [.p (kG (0,0)),.p (.bool false)]) ⟨dG m f r w M.n M.F M.R M.W,[],nx⟩:=by
 obtain⟨h1,h2⟩:=yA M k;refine V2 m f r w nx M.n h M.F M.R M.W k (hM.F.Lx hM.n) ?_;by_cases c:k<1
 ·exact .inl c
 ·right;intro e he;obtain⟨i,hi,rfl⟩:=List.getElem_of_mem he;exact h1 i hi (by omega)
end Go.Av
namespace Go.aT
open Go.Av
theorem su.take{M:Mp}(h:su M)(k:Int):su (M.take k).1/\(M.take k).1.n=M.n/\0<=(M.take k).2.1.1/\(M.take k).2.1.1<=M.n/\((M.take k).2.2=true->1<=k/\(M.take k).2.1.1+k<=M.n/\(M.take k).2.1.2=k):=by
 unfold Mp.take;split
 ·rename_i c;obtain⟨c1,c2⟩:=c;obtain⟨h1,h2⟩:=yA M k;have hk:=h2 c2;have hmem:=List.getElem_mem c2;have FI:=h.F.top _ hmem;have hg:M.F.getD (M.run k) (0,0)=M.F[M.run k]:=by simp[c2]
  rw[hg];obtain⟨e,he⟩:∃e:Go.Av.Ext,(M.F[M.run k].1,k.toNat)=e:=⟨_,rfl⟩;have e1:e.1=M.F[M.run k].1:=by rw[<-he]
  have e2:e.2=k.toNat:=by rw[<-he]
  have hin:∀s,jc e s->mem M.F s:=fun s hs=>⟨_,hmem,by unfold jc at*;omega⟩;have hh:hasB M.F e=true:=(xy h.F.nr e (by omega)).2 hin;obtain⟨q1,q2⟩:=h.F.cut (e:=e) (by omega) hh;have hm:uO M.R e=false:=by
   cases hc:uO M.R e with
   |false=>rfl
   |true=>
    obtain⟨s,hs,hm⟩:=(sk h.R.nr e (by omega)).1 hc;exact absurd hm (h.fr s (hin s hs))
  obtain⟨p1,p2⟩:=h.R.put (e:=e) (by omega) hm (by omega);rw[he];refine⟨⟨h.n,q1,p1,h.W,fun s hs hm=>?_,fun s hs=>h.fw s ((q2 s).1 hs).1⟩,rfl,by simp,by simp;omega,fun _=>⟨c1,by simp;omega,rfl⟩⟩;rcases(p2 s).1 hm with hm|hm
  ·exact h.fr s ((q2 s).1 hs).1 hm
  ·exact((q2 s).1 hs).2 hm
 ·exact⟨h,rfl,by simp,by simp,by simp⟩
theorem Ql{b:Nat}{D:aN}(h:dO b D)(a kind:Int)(l:List UInt8):dO (b+8) (lX D a kind l).1/\(lX D a kind l).1.kept=D.kept:=by
 unfold lX;split
 ·have h1:=h.write a (bn (iN kind l).1);rw[Go.Av.eO]at h1;have:=Go.Av.BB kind l;exact⟨h1.up (by omega),dW _ _ _⟩
 ·exact⟨h.up (by omega),rfl⟩
theorem fL.sv{t:Nat}{c:Cs}(h:fL t c)(n:Go.cC.Nd):fL (t+8) (c.sv n).1:=by
 unfold Cs.sv;split
 ·split
  ·obtain⟨m1,m2,m3,m4,m5⟩:=h.s.sl.take 1;obtain⟨p1,p2⟩:=Ql h.s.D (xB c.s.jn (c.s.sl.take 1).2.1.1) 1 (iO n.lf n.ks n.vs);have e8:=sq8 t;have hd:=h.s.dev (t':=t+8) (by omega) (p1.up (by omega)) (by rw[p2]);have hn:=h.s.sl.n;refine⟨{hd with sl:=m1,UC:=by simp only[m2];exact h.s.UC},by have:=h.saved;simp;omega,fun p hp=>?_,by have:=h.old;simp;omega,h.olb⟩;simp only[iR,List.mem_singleton]at hp;rcases hp with hp|rfl
   ·exact h.sav p hp
   ·exact⟨m3,by omega⟩
  ·exact h.up (by omega)
 ·exact h.up (by omega)
end Go.aT
namespace Go.Av
open Go.Proofs Go.Proofs.Tryz Go.aT
open Go.cC (Nd rB nZ)
theorem vS(n:Nd)(h:rB n=true):(iO n.lf n.ks n.vs).length<=500:=by
 have hr:fE n.lf n.ks n.vs=true:=by rw[mL];exact h
 obtain⟨hc,k4,hf,E8⟩:=ri hr;have hv:n.vs.length<=5:=by
  have:n.vs.length=n.ks.length+(if n.lf then 0 else 1):=by simpa[pN]using hf
  split at this<;>omega
 have h1:=vP E8 k4;have h2:=vO hv;simp only[iO,mq,dU,List.length_cons,List.length_nil];omega
theorem SK(t:Nat)(c:Cs)(h:fL t c)(ht:t<=30000)(n:Nd)(hk:n.ks.length<=1000)(hv:n.vs.length<=1000):aE prog 429 [.obj 7 0,.p (zW n)] ⟨sS 0 8 c,kY 8,20⟩ (.agg true [.p (.int (c.sv n).2.1),.p (.int (c.sv n).2.2)]) ⟨sS 0 20 (c.sv n).1,kY 20,32⟩:=by
 obtain⟨Z,hZ⟩:∃Z,c.sv n=Z:=⟨_,rfl⟩;rw[hZ];unfold Cs.sv at hZ;refine ah (rs:=[_,_]) [] [(7,[(4,.r 1),(6,.r 2),(8,.f [1,2]),(11,.s 1 [2])]),(8,[(1,.r 2),(6,.r 1),(10,.r 3),(14,.r 1),(17,.r 3),(18,.w [1,2,3]),(20,.r 2),(25,.w [1,2,3])])] [(1,7),(2,22),(3,6)] func429 rfl ?_;by_cases c1:rB n=true
 ·rw[if_pos c1]at hZ;have hp:=Zt n.lf n.ks n.vs (by rw[mL];exact c1) (by omega) (by omega);have hpl:=vS n c1;have hm:=h.s.sl.take 1;have lZ:=h.s.UC;have Q0:=h.s.pn;have hjn:=h.s.jn;have hsv:=h.saved;have htt:=R_ ht;obtain⟨PB,hPB⟩:∃PB,iO n.lf n.ks n.vs=PB:=⟨_,rfl⟩;rw[hPB]at hp hpl hZ;by_cases c2:c.s.sl.run 1<c.s.sl.F.length
  ·have hT:=xH 4 10 11 12 20 (by constructor<;>omega) c.s.sl h.s.sl 1 (by omega) c2;have c3:(c.s.sl.take 1).2.2=true:=by unfold Mp.take;rw[if_pos ⟨by omega,c2⟩]
   simp only[Int.cast_ofNat_Int]at hT;obtain⟨T,hTe⟩:∃T,c.s.sl.take 1=T:=⟨_,rfl⟩;rw[hTe]at hT hm hZ c3;obtain⟨M',⟨a,k⟩,ok⟩:=T;simp only at hT hm hZ c3;subst c3;rw[if_pos rfl]at hZ;obtain⟨m1,m2,m3,m4,m5⟩:=hm;have w1:IntKind.i64.wrap (a*8)=a*8:=aD;have w2:IntKind.i64.wrap (1+c.s.jn+a*8)=xB c.s.jn a:=aD;have w3:IntKind.i64.wrap (a+1)=a+1:=aD;have hw:=Le c.s.D (t*t) h.s.D (xB c.s.jn a) 1 (by unfold xB;omega) (by omega) (by omega) [PB] (by simp;omega) (by simp);simp only[List.flatten_cons,List.flatten_nil,List.append_nil]at hw;obtain⟨W,hW⟩:∃W,lX c.s.D (xB c.s.jn a) 1 PB=W:=⟨_,rfl⟩;rw[hW]at hw hZ;have FQ:=yb c.s.jn c.s.pn (by omega);simp[bO,sS,AE,aG,aj,cM,bR,bN,cz];refine bS hp ?_;simp;refine aA hT (by simp) (by simp[ay]) (by simp[ay]) rfl ?_;simp;refine⟨by omega,by omega,?_⟩;refine jI [0] FQ ?_;simp[w1,w2,w3];refine qU [0,1,2,8] hw ?_;rw[<-hZ];simp[-az,aj,results429];exact⟨[(20,24),(21,9),(22,20),(23,21),(24,12),(25,13),(26,14),(27,15),(28,16),(29,17),(30,23),(31,19)],by simp[m2]⟩
  ·have hT:=MU 4 10 11 12 20 (by constructor<;>omega) c.s.sl h.s.sl 1 (by omega);have c3:(c.s.sl.take 1).2.2=false:=by unfold Mp.take;rw[if_neg (by omega)]
   rw[c3,if_neg (by simp)]at hZ;rw[<-hZ];simp[bO,sS,AE,aG,aj,cM,bR,bN,cz];refine bS hp ?_;simp;refine aA hT (by simp) (by simp[ay]) (by simp[ay]) rfl ?_;simp[-az,results429];exact⟨[(20,8),(21,9),(22,10),(23,11),(24,12),(25,13),(26,14),(27,15),(28,16),(29,17),(30,18),(31,19)],by simp⟩
 ·rw[if_neg c1]at hZ;rw[<-hZ];have hp:=QL n.lf n.ks n.vs (by rw[mL];simpa using c1) (by omega) (by omega);simp[bO,sS,AE,aG,aj,cM,bR,bN,cz];refine bS hp ?_;simp[-az,results429];exact⟨[(20,8),(21,9),(22,10),(23,11),(24,12),(25,13),(26,14),(27,15),(28,16),(29,17),(30,18),(31,19)],by simp⟩
end Go.Av
namespace Go.aT
open Go.Av
theorem UX{α:Type}{p:α->Bool}{l:List α}(h:(!l.any p)=true):∀x∈l,p x=false:=fun x hx=>by
 rw[Bool.not_eq_true']at h;cases hp:p x with
 |false=>rfl
 |true=>rw[List.any_eq_true.2 ⟨x,hx,hp⟩]at h;cases h
theorem su.An{m:Mp}(h:su m)(es:List (Int×Int)):su (m.An es)/\(m.An es).n=m.n:=by
 refine⟨?_,rfl⟩;unfold Mp.An;by_cases c:pK m.n m.F m.W es=true
 ·rw[if_pos c];unfold pK at c;simp only[Bool.and_eq_true]at c;obtain⟨c1,c2⟩:=c;obtain⟨r1,r2,r3⟩:=oq es [] qp c1;have hf:=UX c2;have hno:∀e∈es.map toE,uO m.F e=false/\uO m.W e=false:=fun e he=>by simpa using hf e he
  have hp:=tK h.W (es:=es.map toE) (fun e he=>⟨(r2 e he).1,(r2 e he).2.1,fun s hs hm=>by
   have:=(sk h.W.nr e (r2 e he).1).2 ⟨s,hs,hm⟩;rw[(hno e he).2]at this;cases this⟩) r3 _ (Nat.le_refl _)
  rw[List.take_length]at hp;refine⟨h.n,h.F,h.R,hp.1,h.fr,fun s hs hm=>?_⟩;rcases(hp.2.1 s).1 hm with hm|⟨e,he,hi⟩
  ·exact h.fw s hs hm
  ·have:=(sk h.F.nr e (r2 e he).1).2 ⟨s,hi,hs⟩;rw[(hno e he).1]at this;cases this
 ·rw[if_neg c];exact h
theorem su.hold{m:Mp}(h:su m)(es:List (Int×Int)):su (m.hold es).1/\(m.hold es).1.n=m.n:=by
 refine⟨?_,rfl⟩;unfold Mp.hold;by_cases c:eC m.n m.F es=true
 ·simp only[c,if_true];unfold eC at c;simp only[Bool.and_eq_true]at c;obtain⟨c1,c2⟩:=c;obtain⟨r1,r2,r3⟩:=oq es [] qp c1;have hf:=UX c2;have hh:∀e∈es.map toE,hasB m.F e=true:=fun e he=>by simpa using hf e he
  have hp:=DP h.F (es:=es.map toE) (fun e he=>⟨(r2 e he).1,(xy h.F.nr e (r2 e he).1).1 (hh e he)⟩) r3 _ (Nat.le_refl _);rw[List.take_length]at hp;exact⟨h.n,hp.1,h.R,h.W,fun s hs=>h.fr s ((hp.2.1 s).1 hs).1,fun s hs=>h.fw s ((hp.2.1 s).1 hs).1⟩
 ·have c':eC m.n m.F es=false:=by simpa using c
  simp only[c',Bool.false_eq_true,if_false];exact h
theorem Gu{m:Mp}(h:su m):∀(l:List Int),su (dH m l)/\(dH m l).n=m.n:=by
 intro l
 induction l generalizing m with
 |nil=>exact⟨h,rfl⟩
 |cons p l ih=>
  obtain⟨h1,h2⟩:=h.An [(p,1)];obtain⟨h3,h4⟩:=ih h1;exact⟨h3,h4.trans h2⟩
theorem CB(m:Mp)(l:List Int)(p:Int):dH m (l++[p])=(dH m l).An [(p,1)]:=by simp[dH]
theorem za(m:Mp)(l:List Int):(dH m l).F=m.F/\(dH m l).R=m.R/\(dH m l).n=m.n:=by
 induction l generalizing m with
 |nil=>exact⟨rfl,rfl,rfl⟩
 |cons p l ih=>exact ih (m.An [(p,1)])
end Go.aT
namespace Go.Av
open Go.Proofs Go.Proofs.Tryz Go.aT
theorem Sv(s:St)(hs:su s.sl)(l:List Int)(hl:l.length<=1000000):aE prog 236 [.obj 6 0,.p (.sl (l.map PC.int))] ⟨bO 0 7 s,fh 7,17⟩ (.agg true []) ⟨bO 0 17 {s with sl:=dH s.sl l},fh 17,27⟩:=by
 refine ah (rs:=[]) [] [] [] func236 rfl ?_;simp[bO,aG,aj,cM,bR,bN,cz];refine aL (fun k:Nat=>k<=l.length) (fun k=>[(0,.obj 6 0),(6,.p (.sl (l.map PC.int))),(7,.p (.int l.length)),(8,.p (.int k))]) (fun k=>⟨[(0,aG 0 7 s.D),(1,aj s.D.kept),(2,aj s.D.now),(3,fy 0 8 s.J),(4,iQ s.sl.n 9 10 17 s.sl.F s.sl.R (dH s.sl (l.take k)).W),(5,cM 12 s.rm),(6,bR 0 7 s),(9,cg s.sl.F),(10,cg s.sl.R),(17,cg (dH s.sl (l.take k)).W),(12,cg s.rm.F),(13,cg s.rm.R),(14,cg s.rm.W),(15,bN s.ix),(16,cz s.k_)],fh 7,18⟩) (fun k=>l.length-k) 0 (by simp) _ (AS.le_refl _ _) (aB [(17,11)] (by simp[aG,aj,cM,bR,bN,cz,dH])) ?_;intro k hk;by_cases ck:k<l.length
 ·have wk:=jq k;obtain⟨g1,g2⟩:=Gu hs (l.take k);obtain⟨f1,f2,f3⟩:=za s.sl (l.take k);have hg:=WE 4 9 10 17 18 (dH s.sl (l.take k)).n (by constructor<;>omega) g1.n _ _ _ g1.F g1.R g1.W [(l[k],1)] (by simp);rw[f1,f2,f3]at hg;have WN:dH s.sl (l.take (k+1))=(dH s.sl (l.take k)).An [(l[k],1)]:=by rw[iA ck,CB]
  have hW:(dH s.sl (l.take (k+1))).W=if pK s.sl.n s.sl.F (dH s.sl (l.take k)).W [(l[k],1)]=true then([(l[k],1)].map toE).foldl gy (dH s.sl (l.take k)).W else(dH s.sl (l.take k)).W:=by
   rw[WN];simp only[Mp.An,f1,f3]
  rw[<-hW]at hg;simp[ck,aG,aj,cM,bR,bN,cz];refine aA hg (by simp) (by simp[ay]) (by simp[ay]) rfl ?_;simp[wk];exact⟨k+1,by omega,by omega,aB [(17,18)] (by simp)⟩
 ·obtain rfl:k=l.length:=by omega
  obtain⟨f1,f2,f3⟩:=za s.sl l;simp[-az,aG,aj,cM,bR,bN,cz,results236];exact⟨[(17,7),(18,8),(19,9),(20,10),(21,17),(22,12),(23,13),(24,14),(25,15),(26,16)],by simp[f1,f2,f3]⟩
end Go.Av
namespace Go.aT
open Go.Av
def Sm.longer(w:Sm):Sm×Bool:=match w.e.body.getLast? with
 |none=>(w,false)
 |some x=>({w with s:={w.s with rm:=(w.s.rm.hold [(x.1+x.2,1)]).1},e:={w.e with body:=if(w.s.rm.hold [(x.1+x.2,1)]).2=true then w.e.body.dropLast++[(x.1,x.2+1)]else w.e.body}},(w.s.rm.hold [(x.1+x.2,1)]).2)
structure WOk(t:Nat)(w:Sm):Prop where
 s:jU t w.s
 bl:w.e.body.length<=8
 bo:∀e∈w.e.body,0<=e.1/\e.1<=65536/\1<=e.2/\e.2<=65536
end Go.aT
namespace Go.Av
open Go.Proofs Go.Proofs.Tryz Go.aT
theorem qZ(a b:List (Int×Int)):AY (a++b)=AY a++AY b:=by simp[AY]
@[simp]theorem ag0(l:List (Int×Int)):(AY l).length=l.length*2:=by
 induction l with
 |nil=>rfl
 |cons x l ih=>show(AY ([x]++l)).length=_;rw[qZ,dU,ih];simp[AY];omega
theorem JM(t:Nat)(w:Sm)(h:WOk t w):aE prog 224 [.obj 7 0] ⟨jG 0 8 w,fh 8,19⟩ (.p (.bool w.longer.2)) ⟨jG 0 19 w.longer.1,fh 19,30⟩:=by
 obtain⟨Z,hZ⟩:∃Z,w.longer=Z:=⟨_,rfl⟩;rw[hZ];unfold Sm.longer at hZ;refine ah (rs:=[_]) [] [(5,[(3,.r 1),(6,.r 2),(10,.r 3),(14,.r 3),(18,.w [1,2,3])])] [(1,7),(2,6),(3,18)] func224 rfl ?_;rcases List.eq_nil_or_concat w.e.body with hb|⟨l,x,hb⟩
 ·rw[hb]at hZ;simp only[List.getLast?_nil]at hZ;rw[<-hZ];simp[-az,jG,nE,ni,bO,aG,aj,cM,bR,bN,cz,hb,results224];exact⟨[(19,8),(20,9),(21,10),(22,11),(23,12),(24,13),(25,14),(26,15),(27,16),(28,17),(29,18)],by simp⟩
 ·rw[List.concat_eq_append]at hb;have hx:=h.bo x (by rw[hb];simp);have pH:=h.bl;rw[hb]at pH;simp only[dU,List.length_cons,List.length_nil]at pH;have hh:=Cb 5 13 14 15 19 w.s.rm.n (by constructor<;>omega) h.s.rm.n _ _ _ h.s.rm.F h.s.rm.R h.s.rm.W [(x.1+x.2,1)] (by simp);have w1:IntKind.i64.wrap (((l.length+1:Nat):Int)-1)=(l.length:Int):=by rw[aD];omega
  have bd1:AY [x]=[PC.int x.1,PC.int x.2]:=rfl;have w1':IntKind.i64.wrap (l.length:Int)=(l.length:Int):=aD;have cnz:((l.length:Int)+1==0)=false:=by simp;omega
  have w2:IntKind.i64.wrap (x.1+x.2)=x.1+x.2:=aD;have w3:IntKind.i64.wrap (x.2+1)=x.2+1:=aD;rw[hb]at hZ;simp only[List.getLast?_append,List.getLast?_singleton,Option.some_or,List.dropLast_concat]at hZ;simp[jG,nE,ni,bO,aG,aj,cM,bR,bN,cz,hb,qZ,bd1,w1',cnz,w2];refine⟨by omega,?_⟩;refine aA hh (by simp) (by simp[ay]) (by simp[ay]) rfl ?_;have hm:w.s.rm.hold [(x.1+x.2,1)]=({w.s.rm with F:=if eC w.s.rm.n w.s.rm.F [(x.1+x.2,1)]=true then([(x.1+x.2,1)].map toE).foldl fN w.s.rm.F else w.s.rm.F},eC w.s.rm.n w.s.rm.F [(x.1+x.2,1)]):=rfl;rw[hm]at hZ;cases hq:eC w.s.rm.n w.s.rm.F [(x.1+x.2,1)]with
  |false=>
   rw[hq]at hZ;simp only[Bool.false_eq_true,if_false]at hZ;rw[<-hZ];simp[-az,qZ,bd1,results224];exact⟨[(19,8),(20,9),(21,10),(22,11),(23,12),(24,19),(25,14),(26,15),(27,16),(28,17),(29,18)],by simp⟩
  |true=>
   rw[hq]at hZ;simp only[if_true]at hZ;rw[<-hZ];have bd2:AY [(x.1,x.2+1)]=[PC.int x.1,PC.int (x.2+1)]:=rfl;have ht:List.take (l.length*2+1) (List.map AV.p (AY l)++[AV.p (PC.int x.1),AV.p (PC.int x.2)])=List.map AV.p (AY l)++[AV.p (PC.int x.1)]:=by
    rw[List.take_append,fY (by simp)];simp
   have hd:List.drop (l.length*2+1+1) (List.map AV.p (AY l)++[AV.p (PC.int x.1),AV.p (PC.int x.2)])=[]:=List.drop_of_length_le (by simp);simp[-az,qZ,bd2,w3,ht,hd,results224];exact⟨[(19,8),(20,9),(21,10),(22,11),(23,12),(24,19),(25,14),(26,15),(27,16),(28,17),(29,18)],by simp⟩
end Go.Av
namespace Go.aT
open Go.Av
def rV(l:List (Int×Int)):Int:=match l.getLast? with
 |none=>0
 |some x=>x.1+x.2-1
def Sm.dj(w:Sm):Sm×Int×Int:=if w.longer.2=true then(w.longer.1,rV w.longer.1.e.body,0)else if w.e.body.length=8 then(w,0,30)else({w with s:={w.s with rm:=(w.s.rm.take 1).1},e:={w.e with body:=w.e.body++[(w.s.rm.take 1).2.1]}},rV (w.e.body++[(w.s.rm.take 1).2.1]),0)
theorem JN{w:Sm}(h:w.longer.2=false):w.longer.1=w:=by
 unfold Sm.longer at h⊢;split
 ·rfl
 ·rename_i x hx;rw[hx]at h;simp only at h;simp only[h,Bool.false_eq_true,if_false];unfold Mp.hold at h⊢;simp only at h;simp only[h,Bool.false_eq_true,if_false]
end Go.aT
namespace Go.Av
open Go.Proofs Go.Proofs.Tryz Go.aT
theorem yw{f:FuncId}{caps:List AV}{tb:Tb}(x:AV)(hC:aE prog f caps tb (.p (.bool true)) tb)(hm:tb.merge tb tb=tb)(hb:ay tb.bx tb.bx)(hr:ay tb.rw tb.rw)(ht:toAll caps caps)(hx:x.fD tb.nx=true)(hxt:x.to x)(iB:AV.fD.eM tb.nx caps=true)(adZ:qm tb.nx [] tb tb):aE prog 225 [x,.lJ (.func f) caps] tb (.p (.int 0)) tb:=by
 obtain⟨bx,eE,nx⟩:=tb;have r1:=CG (rn:=[]) (nx:=nx) (by simp) x hx;have r2:=lq (rn:=[]) (nx:=nx) (by simp) caps iB;simp only at hx iB;refine ah (rs:=[_]) [] [] [] func225 rfl ?_;simp;refine aL (fun _:Unit=>True) (fun _=>[(0,x),(1,.lJ (.func f) caps)]) (fun _=>⟨bx,eE,nx⟩) (fun _=>0) () trivial _ (AS.le_refl _ _) ⟨[],adZ,by simp[r1,r2,hx,iB];exact hxt⟩ ?_;intro _ _;simp;refine Ek hC ht hb hr rfl ?_;rw[hm];simp[-az,results225];exact⟨[],adZ,by simp,by simp⟩
theorem RI(w:Sm)(hF:z_ w.s.rm.F)(hp:0<Aa w.s.rm.F):aE prog 226 [.obj 19 0] ⟨(19,⟨28,1,[.obj 7 0]⟩)::jG 0 8 w,fh 8,20⟩ (.p (.bool true)) ⟨(19,⟨28,1,[.obj 7 0]⟩)::jG 0 8 w,fh 8,20⟩:=by
 have hf:=L0 5 13 14 15 20 w.s.rm.n (by constructor<;>omega) w.s.rm.F w.s.rm.R w.s.rm.W hF;refine ah (rs:=[_]) [] [] [] func226 rfl ?_;simp[jG,nE,ni,bO,aG,aj,cM,bR,bN,cz];refine aA hf (by simp) (by simp[ay]) (by simp[ay]) rfl ?_;simp[-az,hp,results226];exact⟨[],by simp⟩
def HU(w:Sm):Tb:=⟨(19,⟨28,1,[.obj 7 0]⟩)::jG 0 20 w,fh 20,31⟩
theorem JL(t:Nat)(w:Sm)(h:WOk t w)(hp:w.longer.2=true\/(0<Aa w.s.rm.F/\w.s.rm.run 1<w.s.rm.F.length))(hL:∀x∈w.longer.1.e.body,0<=x.1/\x.1<=65536/\0<=x.2/\x.2<=65537)(hT:0<=(w.s.rm.take 1).2.1.1/\(w.s.rm.take 1).2.1.1<=65536/\(w.s.rm.take 1).2.1.2=1):aE prog 145 [.obj 7 0] ⟨jG 0 8 w,fh 8,19⟩ (.agg true [.p (.int w.dj.2.1),.p (.int w.dj.2.2)]) ⟨jG 0 19 w.dj.1,fh 19,30⟩:=by
 have rR:=JM t w h;obtain⟨Z,hZ⟩:∃Z,w.dj=Z:=⟨_,rfl⟩;rw[hZ];unfold Sm.dj at hZ;refine ji (rs:=[_,_]) [1] [(9,[(0,.r 1),(1,.r 1),(5,.r 2),(6,.r 4),(8,.w [1,2,4]),(12,.s 2 [])]),(10,[(0,.r 1),(4,.r 2),(5,.r 1),(9,.r 2),(13,.r 3),(14,.w [1,2,3]),(15,.s 5 [])])] [(1,19),(2,7),(3,30),(4,44),(5,31)] func145 rfl (by kernel_rfl) (by kernel_rfl) (by simp[ntmps145]) rfl ?_;refine bM mixed (fun _:Unit=>True) (fun _=>[(1,.obj 19 0)]) (fun _=>⟨(19,⟨28,1,[.obj 7 0]⟩)::jG 0 8 w,fh 8,20⟩) ?_ (fun _ _=>?_)
 ·simp[jG,nE,ni,bO,aG,aj,cM,bR,bN,cz];exact ak (by simp)
 refine bM mixed (fun w':Sm=>Z=(w',rV w'.e.body,0)/\w'.e.body≠[]/\w'.e.body.length<=100/\∀x∈w'.e.body,0<=x.1/\x.1<=65536/\0<=x.2/\x.2<=65537) (fun _=>[(1,.obj 19 0)]) (fun w'=>HU w') ?_ ?_
 ·have pH:=h.bl;cases hq:w.longer.2 with
  |true=>
   rw[if_pos hq]at hZ;rw[hq]at rR;have hne:w.longer.1.e.body≠[]/\w.longer.1.e.body.length<=100:=by
    unfold Sm.longer at hq⊢;split
    ·rename_i hx;rw[hx]at hq;simp at hq
    ·rename_i x hx;rw[hx]at hq;simp only at hq;simp only[hq,if_true];simp;omega
   generalize w.longer.1=w1 at hZ rR hL hne;simp[jG,nE,ni,bO,aG,aj,cM,bR,bN,cz];refine bq [0,1,2,3,4,5,6,7,8,9,10,11,12,13,14,15,16,17,18] rR (by simp) (by simp) (by simp[ay,jG,nE,ni,bO,aG,aj,cM,bR,bN,cz]) (by simp[ay]) ?_;simp[jG,nE,ni,bO,aG,aj,cM,bR,bN,cz];exact⟨w1,⟨hZ.symm,hne.1,hne.2,fun a b hab=>hL (a,b) hab⟩,ak (by simp[HU,jG,nE,ni,bO,aG,aj,cM,bR,bN,cz])⟩
  |false=>
   have hlo:=JN hq;rw[hq,hlo]at rR;rw[hq]at hZ;simp only[Bool.false_eq_true,if_false]at hZ;obtain⟨hp1,Qo⟩:=hp.resolve_left (by rw[hq];simp);have hfr:=RI w (h.s.rm.F.Lx h.s.rm.n) hp1;have hmk:=yw (.obj 6 0) hfr (by simp[Tb.merge,jG,bO,b_,del]) (by simp[ay,jG,nE,ni,bO,aG,aj,cM,bR,bN,cz]) (by simp[ay]) (by simp) (by simp) (by simp[AV.to];exact .inl rfl) (by simp) (by simp[qm,jG,nE,ni,bO,aG,aj,cM,bR,bN,cz]);have oK:=xH 5 36 37 38 42 (by constructor<;>omega) w.s.rm h.s.rm 1 (by omega) Qo;rw[show((1:Nat):Int)=1 from rfl]at oK;simp[jG,nE,ni,bO,aG,aj,cM,bR,bN,cz];refine bq [0,1,2,3,4,5,6,7,8,9,10,11,12,13,14,15,16,17,18] rR (by simp) (by simp) (by simp[ay,jG,nE,ni,bO,aG,aj,cM,bR,bN,cz]) (by simp[ay]) ?_;simp[jG,nE,ni,bO,aG,aj,cM,bR,bN,cz];refine bq [0,1,2,3,4,5,6,7,20,21,22,23,24,25,26,27,28,29,30,19] hmk (by simp) (by simp) (by simp[ay,jG,nE,ni,bO,aG,aj,cM,bR,bN,cz]) (by simp[ay]) ?_;simp[jG,nE,ni,bO,aG,aj,cM,bR,bN,cz];refine bq [0,1,2,3,4,5,6,7,20,21,22,23,24,25,26,27,28,29,30] rR (by simp) (by simp) (by simp[ay,jG,nE,ni,bO,aG,aj,cM,bR,bN,cz]) (by simp[ay]) ?_;by_cases c8:w.e.body.length=8
   ·rw[if_pos c8]at hZ;rw[<-hZ];simp[-az,jG,nE,ni,bO,aG,aj,cM,bR,bN,cz,c8,results145];exact⟨[(19,31),(20,32),(21,33),(22,34),(23,35),(24,36),(25,37),(26,38),(27,39),(28,40),(29,41)],by simp⟩
   ·rw[if_neg c8]at hZ;have JO:((w.e.body.length:Int)==8)=false:=by simp;omega
    simp[jG,nE,ni,bO,aG,aj,cM,bR,bN,cz,JO];refine aA oK (by simp) (by simp[ay]) (by simp[ay]) rfl ?_;have hn:(w.s.rm.take 1).1.n=w.s.rm.n:=by unfold Mp.take;split<;>rfl
    have hlt:w.e.body.length<=8:=pH;obtain⟨M,hM⟩:∃M,w.s.rm.take 1=M:=⟨_,rfl⟩;rw[hM]at hZ hT hn⊢;obtain⟨m',x,b⟩:=M;simp only at hZ hT hn⊢;have bd1:AY [x]=[PC.int x.1,PC.int x.2]:=rfl;have WI:List.take (w.e.body.length*2) (List.map AV.p (AY w.e.body))=List.map AV.p (AY w.e.body):=fY (by simp);have hbn:∀a b:Int,(a,b)∈w.e.body++[x]->0<=a/\a<=65536/\0<=b/\b<=65537:=by
     intro a b hab;rcases iR.1 hab with hab|hab
     ·have:=h.bo (a,b) hab;simp only at this;omega
     ·simp at hab;rw[<-hab]at hT;simp only at hT;omega
    simp;exact⟨by omega,by omega,{w with s:={w.s with rm:=m'},e:={w.e with body:=w.e.body++[x]}},⟨hZ.symm,by simp,by simp;omega,hbn⟩,aB [(20,31),(21,32),(22,33),(23,34),(24,35),(25,42),(26,43),(27,38),(28,39),(29,40),(30,45)] (by simp[HU,jG,nE,ni,bO,aG,aj,cM,bR,bN,cz,fy,iQ,cg,hn,WI,qZ,bd1])⟩
 ·rintro w' ⟨hw,hne,hlw,hbo⟩;refine iH mixed ?_;rw[hw];simp only;clear hZ hw hL hT hp rR h;rcases List.eq_nil_or_concat w'.e.body with hb|⟨l,x,hb⟩
  ·exact absurd hb hne
  rw[List.concat_eq_append]at hb;have hx:=hbo x (by rw[hb];simp);have hla:rV (l++[x])=x.1+x.2-1:=by simp[rV]
  have bd1:AY [x]=[PC.int x.1,PC.int x.2]:=rfl;rw[hb]at hlw;simp only[dU,List.length_cons,List.length_nil]at hlw;have w1':IntKind.i64.wrap (l.length:Int)=(l.length:Int):=aD;have w2:IntKind.i64.wrap (x.1+x.2)=x.1+x.2:=aD;have w3:IntKind.i64.wrap (x.1+x.2-1)=x.1+x.2-1:=aD;have hd:List.drop (l.length*2) (List.map AV.p (AY l)++[AV.p (PC.int x.1),AV.p (PC.int x.2)])=[AV.p (PC.int x.1),AV.p (PC.int x.2)]:=List.drop_left' (by simp);simp[-az,HU,jG,nE,ni,bO,aG,aj,cM,bR,bN,cz,hb,qZ,bd1,hla,w1',w2,w3,hd,results145];refine⟨by omega,?_⟩;exact⟨[(19,20),(20,21),(21,22),(22,23),(23,24),(24,25),(25,26),(26,27),(27,28),(28,29),(29,30)],by simp⟩
end Go.Av
namespace Go.aT
open Go.Av
def Sm.dev(w:Sm)(D:aN):Sm:={w with s:={w.s with D:=D}}
def Sm.one(w:Sm)(x:dh):Sm×Int:=if w.dj.2.2=0 then(w.dj.1.dev (w.dj.1.s.D.write (cG w.dj.1.s.jn w.dj.1.s.pn+w.dj.2.1) [x]).1,(w.dj.1.s.D.write (cG w.dj.1.s.jn w.dj.1.s.pn+w.dj.2.1) [x]).2)else(w.dj.1,w.dj.2.2)
def d_:List dh->Sm->Sm×Int
 |[],w=>(w,0)
 |x::l,w=>if(w.one x).2=0 then d_ l (w.one x).1 else w.one x
structure rT(t:Nat)(w:Sm):Prop where
 ok:WOk t w
 p:w.longer.2=true\/(0<Aa w.s.rm.F/\w.s.rm.run 1<w.s.rm.F.length)
 l:∀x∈w.longer.1.e.body,0<=x.1/\x.1<=65536/\0<=x.2/\x.2<=65537
 tk:0<=(w.s.rm.take 1).2.1.1/\(w.s.rm.take 1).2.1.1<=65536/\(w.s.rm.take 1).2.1.2=1
theorem qv:∀(k:Nat) (l:List dh) (w w1:Sm),k<=l.length->d_ (l.take k) w=(w1,0)->d_ l w=d_ (l.drop k) w1
 |0,l,w,w1,_,h=>by
  simp[d_]at h;subst h;rfl
 |k+1,[],_,_,hk,_=>by simp at hk
 |k+1,x::l,w,w1,hk,h=>by
  rw[List.take_succ_cons,d_]at h;split at h
  ·rename_i c;rw[d_,if_pos c,List.drop_succ_cons];exact qv k l _ w1 (by simpa using hk) h
  ·rename_i c;rw[h]at c;exact absurd rfl c
theorem Gl(w:Sm):w.dj.1.s.D=w.s.D/\w.dj.1.s.jn=w.s.jn/\w.dj.1.s.pn=w.s.pn:=by
 unfold Sm.dj;split
 ·unfold Sm.longer;split<;>exact⟨rfl,rfl,rfl⟩
 ·split<;>exact⟨rfl,rfl,rfl⟩
theorem Ie{l:List (Int×Int)}(h:∀x∈l,0<=x.1/\x.1<=65536/\0<=x.2/\x.2<=65537):-1<=rV l/\rV l<=200000:=by
 unfold rV;split
 ·omega
 ·rename_i x hx;have:=h x (List.mem_of_getLast? hx);omega
theorem rT.at{t:Nat}{w:Sm}(h:rT t w):-1<=w.dj.2.1/\w.dj.2.1<=200000:=by
 unfold Sm.dj;split
 ·exact Ie h.l
 ·split
  ·simp only;omega
  ·refine Ie fun x hx=>?_;rcases iR.1 hx with hx|hx
   ·have:=h.ok.bo x hx;omega
   ·simp at hx;have:=h.tk;rw[hx];omega
end Go.aT
namespace Go.Av
open Go.Proofs Go.Proofs.Tryz Go.aT
theorem A8(t:Nat)(ht:t<=30000)(w:Sm)(b:List UInt8)(hb:b.length<=2000000)(hC:∀k w',k<(bn b).length->d_ ((bn b).take k) w=(w',0)->rT t w'):aE prog 59 [.obj 7 0,.p (cy b)] ⟨jG 0 8 w,fh 8,19⟩ (.p (.int (d_ (bn b) w).2)) ⟨jG 0 19 (d_ (bn b) w).1,fh 19,30⟩:=by
 have hS:=sD b (by omega);have ai1:=eO b;generalize bn b=L at hC hS ai1⊢;obtain⟨Z,hZ⟩:∃Z,d_ L w=Z:=⟨_,rfl⟩;rw[hZ];refine ah (rs:=[_]) [] [(6,[(3,.r 1),(7,.r 2),(11,.r 1),(14,.r 2),(15,.w [1,2]),(20,.w [1,2])])] [(1,7),(2,6)] func59 rfl ?_;simp;refine bS hS ?_;simp;refine aL (fun a:Nat×Sm=>a.1<=L.length/\d_ (L.take a.1) w=(a.2,0)) (fun a=>[(0,.obj 7 0),(10,.p (.sl (L.map cy))),(11,.p (.int L.length)),(12,.p (.int a.1))]) (fun a=>⟨jG 0 19 a.2,fh 19,30⟩) (fun a=>L.length-a.1) (0,w) (by simp[d_]) _ (AS.le_refl _ _) (aB [(19,8),(20,9),(21,10),(22,11),(23,12),(24,13),(25,14),(26,15),(27,16),(28,17),(29,18)] (by simp[jG,nE,ni,bO,aG,aj,cM,bR,bN,cz])) ?_;rintro⟨k,v⟩ ⟨q1,q2⟩;simp only at q1 q2;have hsp:=qv k L w v q1 q2;rw[hZ]at hsp;by_cases ck:k<L.length
 ·have hO:=hC k v ck q2;obtain⟨x,hx⟩:∃x,L[k]=x:=⟨_,rfl⟩;have FD:=JL t v hO.ok hO.p hO.l hO.tk;have hat:=hO.at;obtain⟨f1,f2,f3⟩:=Gl v;have wk:=jq k;rw[List.drop_eq_getElem_cons ck,hx,d_]at hsp;unfold Sm.one at hsp;have oK:L.take (k+1)=L.take k++[x]:=by rw[iA ck,hx]
  have hD:=hO.ok.s.D;have Q0:=hO.ok.s.pn;have hjn:=hO.ok.s.jn;rw[<-f2]at hjn;rw[<-f3]at Q0;rw[<-f1]at hD;have e1:(L.take (k+1)).take k=L.take k:=by rw[List.take_take,Nat.min_eq_left (by omega)]
  have e2:=qv k (L.take (k+1)) w v (by simp;omega) (by rw[e1];exact q2);have e3:(L.take k++[x]).drop k=[x]:=List.drop_left' (by simp;omega);rw[oK,e3,d_]at e2;unfold Sm.one at e2;obtain⟨Y,hY⟩:∃Y,v.dj=Y:=⟨_,rfl⟩;rw[hY]at FD hat hsp hD Q0 hjn e2;obtain⟨u,a,e⟩:=Y;simp only at FD hat hsp hD Q0 hjn e2;clear hY f1 f2 f3 hO q2 e1;simp[ck,hx];refine bq [0,1,2,3,4,5,6,7,19,20,21,22,23,24,25,26,27,28,29] FD (by simp) (by simp) (by simp[ay,jG,nE,ni,bO,aG,aj,cM,bR,bN,cz]) (by simp[ay]) ?_;by_cases c:e=0
  ·subst c;simp only[if_true]at hsp e2;have Ai:cG u.s.jn u.s.pn=1+u.s.jn+u.s.pn*8:=rfl;have C9:=yM u.s.jn u.s.pn (by omega) (by omega);have w3:IntKind.i64.wrap (cG u.s.jn u.s.pn+a)=cG u.s.jn u.s.pn+a:=aD;have hwr:=q_ u.s.D (t*t) hD (cG u.s.jn u.s.pn+a) (by omega) [x] (by simp) (by have:=R_ ht;simp;omega);obtain⟨Y,hY⟩:∃Y,u.s.D.write (cG u.s.jn u.s.pn+a) [x]=Y:=⟨_,rfl⟩;rw[hY]at hwr hsp e2;obtain⟨D',e'⟩:=Y;simp only at hwr hsp e2;simp[jG,nE,ni,bO,aG,aj,cM,bR,bN,cz];refine jI [0] C9 ?_;simp[w3];refine qU [0,1,2,30] hwr ?_;by_cases cc:e'=0
   ·subst cc;simp only[if_true,d_]at hsp e2;simp[wk,aj];exact⟨k+1,u.dev D',⟨by omega,by rw[oK];exact e2⟩,by omega,aB [(19,41),(20,31),(21,32),(22,33),(23,34),(24,35),(25,36),(26,37),(27,38),(28,39),(29,40)] (by simp[Sm.dev])⟩
   ·have cc':(e' !=0)=true:=by simpa using cc
    simp only[cc,if_false]at hsp;rw[hsp];simp[-az,Sm.dev,aj,cc',results59];exact⟨[(19,41),(20,31),(21,32),(22,33),(23,34),(24,35),(25,36),(26,37),(27,38),(28,39),(29,40)],by simp⟩
  ·have c':(e !=0)=true:=by simpa using c
   have c'':(e==0)=false:=by simpa using c
   simp only[c,if_false]at hsp;rw[hsp];simp[-az,jG,nE,ni,bO,aG,aj,cM,bR,bN,cz,c',c'',results59];exact⟨[(19,30),(20,31),(21,32),(22,33),(23,34),(24,35),(25,36),(26,37),(27,38),(28,39),(29,40)],by simp⟩
 ·obtain rfl:k=L.length:=by omega
  rw[List.drop_length]at hsp;rw[hsp];simp[-az,jG,nE,ni,bO,aG,aj,cM,bR,bN,cz,d_,results59];exact⟨[],by simp⟩
end Go.Av
namespace Go.aT
open Go.Av
def Sm.cnt(w:Sm)(b:List UInt8):Sm:={w with e:={w.e with size:=w.e.size+b.length,sum:=uW w.e.sum b}}
def Sm.write(w:Sm)(b:List UInt8):Sm×Int:=({(d_ (bn ((w.rest++b).take ((w.rest++b).length/64*64))) (w.cnt b)).1 with rest:=(w.rest++b).drop ((w.rest++b).length/64*64)},(d_ (bn ((w.rest++b).take ((w.rest++b).length/64*64))) (w.cnt b)).2)
end Go.aT
namespace Go.Av
open Go.Proofs Go.Proofs.Tryz Go.aT
theorem SD(t:Nat)(ht:t<=30000)(w:Sm)(L:List (List UInt8))(hL:L.length<=1000000)(he:w.ended=false)(hsz:0<=w.e.size/\w.e.size+L.flatten.length<=1048576)(hsm:w.e.sum<4294967296)(pY:w.rest.length<=64)(hC:∀k w',k<(bn ((w.rest++L.flatten).take ((w.rest++L.flatten).length/64*64))).length->d_ ((bn ((w.rest++L.flatten).take ((w.rest++L.flatten).length/64*64))).take k) (w.cnt L.flatten)=(w',0)->rT t w')(hz:(w.write L.flatten).2=0):aE prog 14 [.obj 7 0,.p (.sl (L.map cy))] ⟨jG 0 8 w,fh 8,19⟩ (.p (.int 0)) ⟨jG 0 19 (w.write L.flatten).1,fh 19,30⟩:=by
 have Gc:=Ip L (by omega) (by omega);obtain⟨b,hb⟩:∃b,L.flatten=b:=⟨_,rfl⟩;rw[hb]at hC hz hsz Gc⊢;have hmo:=Nq w.e.sum hsm [b] (by simp) (by simp;omega);have Db:=Ip [w.rest,b] (by simp;omega) (by simp);have hff:[w.rest,b].flatten=w.rest++b:=by simp
 have hf1:[b].flatten=b:=by simp
 rw[hff]at Db;rw[hf1]at hmo;obtain⟨Z,hZ⟩:∃Z,(w.write b).1=Z:=⟨_,rfl⟩;rw[hZ];unfold Sm.write at hZ hz;simp only at hZ hz;obtain⟨B,hB⟩:∃B,w.rest++b=B:=⟨_,rfl⟩;rw[hB]at hC hZ hz Db;have hBl:B.length<=1048640:=by rw[<-hB,dU];omega
 obtain⟨n,hn⟩:∃n,B.length/64*64=n:=⟨_,rfl⟩;rw[hn]at hC hZ hz;have Wv:n<=B.length:=by omega
 have FD:=A8 t ht (w.cnt b) (B.take n) (by simp;omega) hC;obtain⟨Y,hY⟩:∃Y,d_ (bn (B.take n)) (w.cnt b)=Y:=⟨_,rfl⟩;rw[hY]at FD hZ hz;obtain⟨u,e⟩:=Y;simp only at FD hZ hz;subst hz;have w1:IntKind.i64.wrap (1048576-w.e.size)=1048576-w.e.size:=aD;have w2:IntKind.i64.wrap (w.e.size+(b.length:Int))=w.e.size+b.length:=aD;have c1:¬(1048576-w.e.size<(b.length:Int)):=by omega
 have wn:IntKind.i64.wrap (IntKind.i64.wrap ((B.length:Int)/64)*64)=(n:Int):=by
  have q0:IntKind.i64.wrap ((B.length:Int)/64)=(B.length:Int)/64:=aD;rw[q0,aD];omega
 have oK:List.take n (af B)=af (B.take n):=by simp[af]
 have hdr:List.drop n (af B)=af (B.drop n):=by simp[af]
 refine ah (rs:=[_]) [] [] [] func14 rfl ?_;simp[jG,nE,ni,bO,aG,aj,cM,bR,bN,cz,he];refine bS Gc ?_;simp[w1,w2,c1];refine bS hmo ?_;simp;refine bS Db ?_;simp[wn,oK];refine⟨fun y h=>(cF _ y h).symm,Wv,?_⟩;refine aA FD (by simp) (by simp[ay,he,Sm.cnt,jG,nE,ni,bO,aG,aj,cM,bR,bN,cz]) (by simp[ay]) rfl ?_;rw[<-hZ];simp[-az,hdr,jG,nE,ni,bO,aG,aj,cM,bR,bN,cz,results14];exact⟨fun y h=>(cF _ y h).symm,Wv,[],by simp⟩
end Go.Av
namespace Go.aT
open Go.Av
theorem xJ{a n t:Nat}(h:t<a+n):iM [(a,n)] t=0:=by
 have:¬a+n<=t:=by omega
 simp[iM,this]
theorem Iv{a n k:Nat}(hk:k<n):fN [(a,n)] (a,k)=[(a+k,n-k)]:=by
 have h1:iM [(a,n)] a=0:=xJ (by omega);simp[fN,h1,jL,nO,hk]
theorem SZ{a n k:Nat}(h1:1<=k)(hk:k<=n):hasB [(a,n)] (a,k)=true:=by
 have h1:iM [(a,n)] a=0:=xJ (by omega);simp[hasB,h1,hk]
theorem u_{n a k:Nat}(h1:1<=k)(h:a+k<=n):jj n [] [((a:Int),(k:Int))]=true:=by
 have hm:uO [] (toE ((a:Int),(k:Int)))=false:=by simp[uO]
 simp[jj,Kv,hm];omega
theorem toE_nat(a k:Nat):toE ((a:Int),(k:Int))=(a,k):=by simp[toE]
theorem DN{M:Mp}{a n k:Nat}(hF:M.F=[(a,n)])(h1:1<=k)(hk:k<n)(hn:a+n<=M.n):M.hold [((a:Int),(k:Int))]=({M with F:=[(a+k,n-k)]},true):=by
 have hb:eC M.n M.F [((a:Int),(k:Int))]=true:=by
  unfold eC;rw[u_ h1 (by omega),hF];simp[toE_nat,SZ h1 (Nat.le_of_lt hk)]
 unfold Mp.hold;rw[hb,if_pos rfl,hF];simp[toE_nat,Iv hk]
theorem Cw{M:Mp}{a n k:Nat}(hF:M.F=[(a,n)])(hk:k<=n):M.run k=0:=by
 unfold Mp.run;rw[hF];simp[hk]
theorem take_one{M:Mp}{a n k:Nat}(hF:M.F=[(a,n)])(h1:1<=k)(hk:k<n):∃R,M.take k=({M with F:=[(a+k,n-k)],R:=R},((a:Int),(k:Int)),true):=by
 have hr:=Cw (M:=M) (k:=k) hF (by omega);unfold Mp.take;rw[hr,if_pos ⟨by omega,by rw[hF];simp⟩,hF];refine⟨gy M.R (a,k),?_⟩;simp[Iv hk]
def rS(m:Nat):List (Int×Int):=if m=0 then[]else[(0,(m:Int))]
theorem GF{w:Sm}{m n:Nat}(hF:w.s.rm.F=[(m,n)])(hb:w.e.body=rS m)(hm:1<n)(hn:m+n<=w.s.rm.n):∃R,w.dj=({w with s:={w.s with rm:={w.s.rm with F:=[(m+1,n-1)],R:=R}},e:={w.e with body:=rS (m+1)}},(m:Int),0):=by
 unfold rS at hb⊢;rw[if_neg (by omega)];by_cases h0:m=0
 ·subst h0;rw[if_pos rfl]at hb;obtain⟨R,hR⟩:=take_one (M:=w.s.rm) (k:=1) hF (by omega) (by omega);rw[show((1:Nat):Int)=1 from rfl]at hR;refine⟨R,?_⟩;have hl:w.longer=(w,false):=by unfold Sm.longer;rw[hb];rfl
  unfold Sm.dj;rw[hl];simp[hb,hR,rV]
 ·rw[if_neg h0]at hb;have hh:=DN (M:=w.s.rm) (k:=1) hF (by omega) (by omega) hn;rw[show((1:Nat):Int)=1 from rfl]at hh;have hl:w.longer=({w with s:={w.s with rm:={w.s.rm with F:=[(m+1,n-1)]}},e:={w.e with body:=[(0,((m+1:Nat):Int))]}},true):=by
   unfold Sm.longer;rw[hb];simp[hh]
  refine⟨w.s.rm.R,?_⟩;unfold Sm.dj;rw[hl];simp[rV]
theorem AI{t:Nat}{w:Sm}{m n:Nat}(hF:w.s.rm.F=[(m,n)])(hb:w.e.body=rS m)(hm:1<n)(hn:m+n<=w.s.rm.n)(hk:jU t w.s):rT t w:=by
 have FI:=hk.rm.n;have hw:WOk t w:=by
  refine⟨hk,?_,?_⟩
  ·rw[hb];unfold rS;split<;>simp
  ·rw[hb];unfold rS;intro e he;split at he
   ·simp at he
   ·simp at he;subst he;simp only;omega
 obtain⟨R,hR⟩:=take_one (M:=w.s.rm) (k:=1) hF (by omega) (by omega);rw[show((1:Nat):Int)=1 from rfl]at hR;refine⟨hw,.inr ⟨by rw[hF];simp[Aa];omega,?_⟩,?_,?_⟩
 ·have:=Cw (M:=w.s.rm) (k:=1) hF (by omega);rw[show((1:Nat):Int)=1 from rfl]at this;rw[this,hF];simp
 ·intro x hx;unfold Sm.longer at hx;split at hx
  ·have:=hw.bo x hx;omega
  ·rename_i y hy;simp only at hx;split at hx
   ·rcases iR.1 hx with hx|hx
    ·have:=hw.bo x ((List.dropLast_sublist _).subset hx);omega
    ·simp at hx;have:=hw.bo y (List.mem_of_getLast? hy);subst hx;simp only;omega
   ·have:=hw.bo x hx;omega
 ·rw[hR];exact⟨by simp,by simp;omega,by simp⟩
theorem jU.adO{t:Nat}{s:St}(h:jU t s){N:Nat}{D:aN}(hD:Gd N D)(hN:N=s.D.kept.length)(yj:1<=N/\N<=65536)(hq:D.q.length<=t*t){m:Mp}(hm:su m)(hn:m.n=s.rm.n):jU t {s with D:=D,rm:=m}:={h with D:=hD.FC yj hq,sz:=by simp only[hD.kl,hN];exact h.sz,rm:=hm,Jf:=by simp only[hn,hD.kl,hN];exact h.Jf}
theorem yl{t N:Nat}(yj:1<=N/\N<=65536):∀(l:List dh) (w:Sm) (m n:Nat),(∀s∈l,s.length=64)->w.s.rm.F=[(m,n)]->w.e.body=rS m->l.length<n->m+n<=w.s.rm.n->jU t w.s->Gd N w.s.D->w.s.D.q.length+l.length<=t*t->∃(r:Nat) (R:List Ext) (D:aN),cG w.s.jn w.s.pn=(r:Int)/\r+w.s.rm.n=N/\d_ l w=({w with s:={w.s with rm:={w.s.rm with F:=[(m+l.length,n-l.length)],R:=R},D:=D},e:={w.e with body:=rS (m+l.length)}},0)/\Gd N D/\D.now=ov w.s.D.now (r+m) l/\D.q.length=w.s.D.q.length+l.length/\jU t {w.s with rm:={w.s.rm with F:=[(m+l.length,n-l.length)],R:=R},D:=D}
 |[],w,m,n,_,hF,hb,hl,hn,hS,hG,hq=>by
  have h1:=hS.Jf;have h2:=hS.sz;have h3:=hS.jn;have h4:=hS.pn;have hk:=hG.kl;refine⟨(cG w.s.jn w.s.pn).toNat,w.s.rm.R,w.s.D,?_,?_,?_,hG,(GH _ _).symm,by simp,?_⟩
  ·unfold cG;omega
  ·unfold cG at*;omega
  ·obtain⟨s,e,a,b,c⟩:=w;obtain⟨D,J,jn,pn,root,sl,rm,ix,ord,k_,sure⟩:=s;obtain⟨rn,F,R,W⟩:=rm;obtain⟨x1,x2,x3,x4,x5,x6,x7,x8,x9,x10,body⟩:=e;simp only at hF hb;subst hF;subst hb;simp[d_]
  ·obtain⟨s,e,a,b,c⟩:=w;obtain⟨D,J,jn,pn,root,sl,rm,ix,ord,k_,sure⟩:=s;obtain⟨rn,F,R,W⟩:=rm;simp only at hF hS;subst hF;simpa using hS
 |x::l,w,m,n,xD,hF,hb,hl,hn,hS,hG,hq=>by
  rw[List.length_cons]at hl hq;have h1:=hS.Jf;have h2:=hS.sz;have h3:=hS.jn;have h4:=hS.pn;have hk:=hG.kl;obtain⟨r,hr⟩:∃r:Nat,cG w.s.jn w.s.pn=(r:Int):=⟨(cG w.s.jn w.s.pn).toNat,by unfold cG;omega⟩;have hrN:r+w.s.rm.n=N:=by omega
  obtain⟨R,hR⟩:=GF hF hb (by omega) hn;have hSk:=AI hF hb (by omega) hn hS;obtain⟨g1,g2,g3,g4,g5⟩:=hG.write (a:=r+m) (l:=[x]) (by simp;omega) (by intro s hs;simp at hs;subst hs;exact xD _ (by simp));have hone:w.one x=({w with s:={w.s with rm:={w.s.rm with F:=[(m+1,n-1)],R:=R},D:=(w.s.D.write ((r+m:Nat):Int) [x]).1},e:={w.e with body:=rS (m+1)}},0):=by
   unfold Sm.one;rw[hR];simp only[Sm.dev,if_true,hr];rw[show(r:Int)+(m:Int)=((r+m:Nat):Int) by omega,g1]
  have xp:su {w.s.rm with F:=[(m+1,n-1)],R:=R}:=by
   have hh:w.dj.1.s.rm={w.s.rm with F:=[(m+1,n-1)],R:=R}:=by rw[hR]
   rw[<-hh];unfold Sm.dj;split
   ·unfold Sm.longer;split
    ·exact hS.rm
    ·exact(hS.rm.hold _).1
   ·split
    ·exact hS.rm
    ·exact(hS.rm.take _).1
  have hS':=hS.adO g2 hk.symm yj (by rw[g5];simp;omega) xp rfl;obtain⟨r',R',D',e1,e2,e3,e4,e5,e6,e7⟩:=yl yj l {w with s:={w.s with rm:={w.s.rm with F:=[(m+1,n-1)],R:=R},D:=(w.s.D.write ((r+m:Nat):Int) [x]).1},e:={w.e with body:=rS (m+1)}} (m+1) (n-1) (fun s hs=>xD s (by simp[hs])) rfl rfl (by omega) (by simp only;omega) hS' g2 (by simp only;rw[g5];simp;omega);simp only at e1 e2 e3 e5 e6 e7;obtain rfl:r'=r:=by omega
  have a1:m+1+l.length=m+(x::l).length:=by rw[List.length_cons];omega
  have a2:n-1-l.length=n-(x::l).length:=by rw[List.length_cons];omega
  rw[a1,a2]at e3 e7;refine⟨r',R',D',hr,hrN,?_,e4,?_,?_,e7⟩
  ·rw[d_,hone];simp only[if_true];exact e3
  ·rw[e5,g3];rw[show r'+(m+1)=r'+m+1 by omega];have gT:=GI w.s.D.now (r'+m) x [] (by rw[hG.nl];simp;omega);rw[GH]at gT;rw[<-gT];exact GI _ _ _ _ (by rw[hG.nl];omega)
  ·rw[e6,g5];simp;omega
end Go.aT
namespace Go.Av
open Go.Proofs Go.Proofs.Tryz Go.aT
theorem HI(n:Nat):∀(a k d:Nat),tD a n k d<=d+a
 |0,k,d=>by unfold tD;omega
 |a+1,k,d=>by
  unfold tD;split
  ·have:=HI n a (k*2) (d+1);omega
  ·omega
theorem MK(n:Nat):depth n<=n+2:=by
 have:=HI n (n+1) 1 1;unfold depth;omega
theorem Ro(s:St)(hF:z_ s.sl.F)(hl:s.ix.length<=1000000)(hp:4*depth s.ix.length+4<=Aa s.sl.F):aE prog 228 [.obj 17 0] ⟨(17,⟨32,1,[.obj 6 0]⟩)::bO 0 7 s,fh 7,18⟩ (.p (.bool true)) ⟨(17,⟨32,1,[.obj 6 0]⟩)::bO 0 7 s,fh 7,18⟩:=by
 have hf:=L0 4 9 10 11 18 s.sl.n (by constructor<;>omega) s.sl.F s.sl.R s.sl.W hF;have hd:=Rp s hl;have hdl:=MK s.ix.length;obtain⟨d,hde⟩:∃d,depth s.ix.length=d:=⟨_,rfl⟩;rw[hde]at hd hdl hp;have w1:IntKind.i64.wrap (4*(d:Int))=4*d:=aD;have w2:IntKind.i64.wrap (4*(d:Int)+4)=4*d+4:=aD;have c1:¬((Aa s.sl.F:Int)<4*(d:Int)+4):=by omega
 have c2:4*(d:Int)+4<=(Aa s.sl.F:Int):=by omega
 refine ah (rs:=[_]) [] [(1,[(0,.r 1),(3,.r 2),(4,.w [1,2]),(5,.r 1),(6,.w [1,2])])] [(1,17),(2,6)] func228 rfl ?_;simp[bO,aG,aj,cM,bR,bN,cz];refine aA hf (by simp) (by simp[ay]) (by simp[ay]) rfl ?_;simp;refine bq [0,1,2,3,4,5,6,7,8,9,10,11,12,13,14,15,16] hd (by simp) (by simp) (by simp[ay,bR,bN]) (by simp) ?_;simp[-az,w1,w2,c2,bR,bN,results228];exact⟨[],by simp⟩
theorem Mc(s:St)(hF:z_ s.sl.F)(hl:s.ix.length<=1000000)(hp:4*depth s.ix.length+4<=Aa s.sl.F):aE prog 146 [.obj 6 0] ⟨bO 0 7 s,fh 7,17⟩ (.p (.int 0)) ⟨bO 0 7 s,fh 7,17⟩:=by
 have hfr:=Ro s hF hl hp;have hmk:=yw (.obj 6 0) hfr (by simp[Tb.merge,bO,b_,del]) (by simp[ay,bO,aG,aj,cM,bR,bN,cz]) (by simp[ay]) (by simp) (by simp) (by simp[AV.to];exact .inl rfl) (by simp) (by simp[qm,bO,aG,aj,cM,bR,bN,cz]);refine ah (rs:=[_]) [1] [] [] func146 rfl ?_;simp[bO,aG,aj,cM,bR,bN,cz];refine aA hmk (by simp) (by simp[ay,bO,aG,aj,cM,bR,bN,cz]) (by simp[ay]) rfl ?_;simp[-az,bO,aG,aj,cM,bR,bN,cz,results146];exact⟨[],by simp⟩
end Go.Av
namespace Go.aT
open Go.Av
open Go.cC (Nd rB nZ)
theorem fL.tl{t:Nat}{c:Cs}(h:fL t c)(p:Int):fL t (bA.tl c p).1:=by
 have:=h.ld p;unfold Go.cC.eu.tl;split
 ·split<;>exact this
 ·exact this
end Go.aT
namespace Go.Av
open Go.Proofs Go.Proofs.Tryz Go.aT
open Go.cC (Nd rB nZ Right lC)
theorem afw:wR prog 276 "Load"=some 428:=by kernel_rfl
theorem H7:wR prog 276 "Save"=some 429:=by kernel_rfl
theorem adQ:wR prog 276 "Drop"=some 427:=by kernel_rfl
@[reducible]def cI(root:Int):Ob:=⟨371,2,[.mW 276 (.obj 7 0),.p (.int root)]⟩
@[reducible]def rI(u:Nat)(l:List Nat):List Nat:=0::1::2::3::4::5::6::7::u::(u+1)::(u+2)::(u+3)::(u+4)::(u+5)::(u+6)::(u+7)::(u+8)::(u+9)::(u+10)::(u+11)::l
@[reducible]def cL(v u:Nat)(l:List (Nat×Nat)):List (Nat×Nat):=(v,u)::(v+1,u+1)::(v+2,u+2)::(v+3,u+3)::(v+4,u+4)::(v+5,u+5)::(v+6,u+6)::(v+7,u+7)::(v+8,u+8)::(v+9,u+9)::(v+10,u+10)::(v+11,u+11)::l
theorem PU(t:Nat)(c:Cs)(h:fL t c)(p:Int)(hp:lD p):aE prog 428 [.obj 7 0,.p (.int p)] ⟨kg.B 0 8 c,kY 8,20⟩ (.agg true [.p (zW (bA.ld c p).2.1),.p (.int (bA.ld c p).2.2)]) ⟨kg.B 0 20 (bA.ld c p).1,kY 20,32⟩:=QZ t c h p hp
theorem E2(b:List UInt8):rB (pG b).1=true\/(pG b).1=nZ:=by
 unfold pG;split
 ·rename_i h;left;simp only[xd,Bool.and_eq_true]at h;rw[<-mL];exact h.2
 ·exact .inr rfl
theorem G6(c:Cs)(p:Int):rB (bA.ld c p).2.1=true\/(bA.ld c p).2.1=nZ:=by
 show rB (c.ld p).2.1=true\/(c.ld p).2.1=nZ;unfold Cs.ld;split
 ·exact .inr rfl
 ·split
  ·split
   ·exact E2 _
   ·exact .inr rfl
  ·exact .inr rfl
theorem Zp{n:Nd}(h:rB n=true\/n=nZ):n.ks.length<=4/\n.vs.length<=5:=by
 rcases h with h|rfl
 ·have h:=(lC n).1 h;have h1:=h.len;have h2:=h.form;exact⟨h1,by rw[h2];split<;>omega⟩
 ·simp[nZ]
theorem xw(t:Nat)(c:Cs)(h:fL t c)(root p:Int)(hp:lD p):aE prog 314 [.obj 20 0,.p (.int p)] ⟨kg.B 0 8 c++[(20,cI root)],kY 8,21⟩ (.agg true [.p (zW (bA.tl c p).2.1),.p (.int (bA.tl c p).2.2)]) ⟨kg.B 0 21 (bA.tl c p).1++[(20,cI root)],kY 21,33⟩:=by
 obtain⟨Z,hZ⟩:∃Z,bA.tl c p=Z:=⟨_,rfl⟩;rw[hZ];unfold Go.cC.eu.tl at hZ;have hl:=PU t c h p hp;have hsm:=Zp (G6 c p);obtain⟨R,hR⟩:∃R,bA.ld c p=R:=⟨_,rfl⟩;rw[hR]at hl hZ hsm;obtain⟨c',n,e⟩:=R;simp only at hl hZ hsm;have hr:=s5 n.lf n.ks n.vs (by omega) (by omega);rw[mL]at hr;refine ah (rs:=[_,_]) [] [] [] func314 rfl ?_;simp[cI,afw];refine mK (rI 8 []) hl (by simp) (by simp) (by simp) (by simp) ?_;by_cases c1:e=0
 ·subst c1;rw[if_pos rfl]at hZ;simp;refine bS hr ?_;by_cases c2:rB n=true
  ·rw[if_pos c2]at hZ;rw[<-hZ];simp[-az,c2,results314];exact⟨cL 21 22 [],by simp⟩
  ·rw[if_neg c2]at hZ;rw[<-hZ];have dM:rB n=false:=by simpa using c2
   simp[-az,dM,nZ,results314];exact⟨cL 21 22 [],by simp⟩
 ·rw[if_neg c1]at hZ;rw[<-hZ];have iP:(e !=0)=true:=by simpa using c1
  simp[-az,iP,nZ,results314];exact⟨cL 21 22 [],by simp⟩
end Go.Av
