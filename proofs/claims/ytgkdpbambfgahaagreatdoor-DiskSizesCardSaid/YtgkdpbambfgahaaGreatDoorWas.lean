/- DiskSizes, part 19: what the functions compute, and the plain law of that; no condition. -/
import Derived.Test.YtgkdpbambfgahaaGreatDoorWar
import Derived.WalkKit
set_option linter.all false
set_option maxRecDepth 100000
set_option maxHeartbeats 64000000
namespace Go.Av
open Go.Proofs
theorem T'{L:List Ext}(h:Nr L):Dj L:=h.Z4.imp fun h s hs uw=>by unfold iy at hs uw;omega
theorem rS(m f r w nx n:Nat)(h:JL m f r w nx)(hn:n<=65536)(F R W:List Ext)(hF:Ok n F)(hS:Ok n W)(hd:∀s,mem F s->¬mem W s):aI Tryz.prog 76 [.obj m 0] ⟨dU m f r w n F R W,[],nx⟩ (.agg true []) ⟨dU m nx (nx+1) (nx+2) n (W.foldl fS F) [] [],[],nx+3⟩:=by
 have hSl:W.length<=65536:=by have:=hS.len;omega
 have yG:=rI hF (es:=W) (fun e he=>⟨hS.nr.pos e he,hS.top e he,fun s hs hm=>hd s hm ⟨e,he,hs⟩⟩) (T' hS.nr);obtain⟨Fk,An⟩:∃Fk:Nat->List Ext,Fk=fun k=>(W.take k).foldl fS F:=⟨_,rfl⟩;have h0:Fk 0=F:=by rw[An];simp
 have hL:Fk W.length=W.foldl fS F:=by rw[An];simp
 have hSt:∀k (hk:k<W.length),Fk (k+1)=fS (Fk k) W[k]:=by intro k hk;rw[An];simp only;rw[List.take_succ_eq_append_getElem hk,List.foldl_append];rfl
 have hO:∀k,k<=W.length->Ok n (Fk k):=fun k hk=>by rw[An];exact(yG k hk).1
 rw[<-hL];clear yG An;have key:aI Tryz.prog 76 [.obj m 0] ⟨dU m f r w n F R W,[],nx⟩ (.agg true []) ⟨[(m,⟨274,4,[.p (.int n),.view nx 0 (Fk W.length).length 2 none,.p .nil,.p .nil]⟩),(nx,cn (Fk W.length))],[],nx+1⟩:=by
  obtain⟨hm,hf,hr,hw,mf,mr,mw,fr,fw,nC⟩:=h;have oZ:=Ne.symm mf;have pS:=Ne.symm mr;have pT:=Ne.symm mw;have sU:=Ne.symm fr;have ux:=Ne.symm fw;have qJ:=Ne.symm nC;have q1:¬m=nx:=by omega
  have p1:¬nx=m:=by omega
  have q2:¬m=nx+1:=by omega
  have p2:¬nx+1=m:=by omega
  have q3:¬m=nx+1+1:=by omega
  have p3:¬nx+1+1=m:=by omega
  have q4:¬m=nx+1+1+1:=by omega
  have p4:¬nx+1+1+1=m:=by omega
  have Bl:m<nx+1:=by omega
  have JO:m<nx+1+1:=by omega
  have lm3:m<nx+1+1+1:=by omega
  have lm4:m<nx+1+1+1+1:=by omega
  have km:m<nx+4:=by omega
  have q5:¬f=nx:=by omega
  have p5:¬nx=f:=by omega
  have q6:¬f=nx+1:=by omega
  have p6:¬nx+1=f:=by omega
  have q7:¬f=nx+1+1:=by omega
  have p7:¬nx+1+1=f:=by omega
  have q8:¬f=nx+1+1+1:=by omega
  have p8:¬nx+1+1+1=f:=by omega
  have oa:f<nx+1:=by omega
  have Vu:f<nx+1+1:=by omega
  have lf3:f<nx+1+1+1:=by omega
  have lf4:f<nx+1+1+1+1:=by omega
  have kf:f<nx+4:=by omega
  have q9:¬r=nx:=by omega
  have p9:¬nx=r:=by omega
  have q10:¬r=nx+1:=by omega
  have Tv:¬nx+1=r:=by omega
  have q11:¬r=nx+1+1:=by omega
  have Fl:¬nx+1+1=r:=by omega
  have q12:¬r=nx+1+1+1:=by omega
  have Fm:¬nx+1+1+1=r:=by omega
  have Bx:r<nx+1:=by omega
  have OE:r<nx+1+1:=by omega
  have lr3:r<nx+1+1+1:=by omega
  have lr4:r<nx+1+1+1+1:=by omega
  have kr:r<nx+4:=by omega
  have q13:¬w=nx:=by omega
  have N9:¬nx=w:=by omega
  have q14:¬w=nx+1:=by omega
  have Vv:¬nx+1=w:=by omega
  have q15:¬w=nx+1+1:=by omega
  have p15:¬nx+1+1=w:=by omega
  have q16:¬w=nx+1+1+1:=by omega
  have N_:¬nx+1+1+1=w:=by omega
  have Fh:w<nx+1:=by omega
  have OF:w<nx+1+1:=by omega
  have lw3:w<nx+1+1+1:=by omega
  have lw4:w<nx+1+1+1+1:=by omega
  have kw:w<nx+4:=by omega
  refine QgQ (rs:=[]) [] [(3,[(3,.r 1),(4,.w [1])])] [(1,nx+1)] Tryz.func76 rfl (by simp[Tryz.ntmps76]) ?_;simp[dU,iM,gj];refine aN (fun k:Nat=>k<=W.length) (fun k=>[(0,.obj m 0),(7,.view w 0 W.length 2 none),(8,.p (.int W.length)),(9,.p (.int k))]) (fun k=>⟨dU m nx r w n (Fk k) R W,[],nx+1⟩) (fun k=>W.length-k) 0 (by simp) _ (AS.le_refl _ _) (aE [(nx,f)] (by simp[dU,iM,gj,h0,mf,oZ,mr,pS,mw,pT,fr,sU,fw,ux,nC,qJ,q1,Bl,q9,p9,Bx,q13,N9,Fh])) ?_;intro k hk;by_cases c:k<W.length
  ·have xo:(((cW W).map AV.p).drop (k*2)).take 2=[.p (.int W[k].1),.p (.int W[k].2)]:=by
    rw[<-List.map_drop,lN,show W.drop k=W[k]::W.drop (k+1)from List.drop_eq_getElem_cons c,dy];simp only[List.map_cons,List.take_succ_cons,List.take_zero]
   have h2:k*2+2<=W.length*2:=by omega
   have ht:=hS.top W[k] (by simp);simp[c,dU,iM,gj,xo,h2,pT,qJ,p2,Tv,q13,Vv];refine az (FQ (nx+1+1) m nx (by omega) (by omega) (by omega) 274 4 1 (gj n nx r w (Fk k) R W) (Fk k) W[k] (by simp) (by simp;omega) (hO k hk).nr.up (by have:=(hO k hk).len;omega) (fun e he=>by have:=(hO k hk).top e he;omega) (by omega)) (by simp) (by simp[ay,gj,p1,q2]) trivial rfl ?_;rw[<-hSt k c];simp[gj,mr,mw,p1,q2,p2,p9,N9];refine⟨k+1,by omega,by omega,aE [(nx,nx+1+1)] ?_⟩;simp[mr,pS,mw,pT,nC,qJ,q1,q3,p3,Bl,q9,p9,q10,q11,Fl,Bx,q13,N9,q14,q15,p15,Fh,af (n:=(k:Int)+1) (by omega) (by omega)]
  ·have e:k=W.length:=by omega
   subst e;simp[dU,iM,gj,mr,mw,q1,Bl,Tryz.results76];exact⟨[],by simp[q1,p1]⟩
 have apJ:=h.hm;have q1:¬m=nx:=by omega
 have q2:¬m=nx+1:=by omega
 have q3:¬m=nx+2:=by omega
 have k2:aI Tryz.prog 76 [.obj m 0] ⟨dU m f r w n F R W,[],nx⟩ (.agg true []) ⟨[(m,⟨274,4,[.p (.int n),.view nx 0 (Fk W.length).length 2 none,.view (nx+1) 0 0 2 none,.p .nil]⟩),(nx+1,cn []),(nx,cn (Fk W.length))],[],nx+2⟩:=by
  have t:=me (id:=m) (j:=2) (ob:=⟨274,4,[.p (.int n),.view nx 0 (Fk W.length).length 2 none,.p .nil,.p .nil]⟩) 157 2 key (by simp[lk]) rfl;simp[Tb.aQ,Tb.aT,del,q1,q2]at t;exact t
 have k3:aI Tryz.prog 76 [.obj m 0] ⟨dU m f r w n F R W,[],nx⟩ (.agg true []) ⟨[(m,⟨274,4,[.p (.int n),.view nx 0 (Fk W.length).length 2 none,.view (nx+1) 0 0 2 none,.view (nx+2) 0 0 2 none]⟩),(nx+2,cn []),(nx+1,cn []),(nx,cn (Fk W.length))],[],nx+3⟩:=by
  have t:=me (id:=m) (j:=3) (ob:=⟨274,4,[.p (.int n),.view nx 0 (Fk W.length).length 2 none,.view (nx+1) 0 0 2 none,.p .nil]⟩) 157 2 k2 (by simp[lk]) rfl;simp[Tb.aQ,Tb.aT,del,q1,q2,q3]at t;exact t
 refine z6 k3 (fun i o ho=>?_) (fun i o ho=>ho) (Nat.le_refl _);simp only[iM,gj,lk]at ho⊢;split at ho
 ·rename_i h;rw[if_pos h];exact ho
 ·rename_i Oz;rw[if_neg Oz];split at ho
  ·rename_i h;subst h;simp;simpa using ho
  ·split at ho
   ·rename_i h;subst h;simp;simpa using ho
   ·split at ho
    ·rename_i h;subst h;simp;simpa using ho
    ·cases ho
theorem Ka:dV Tryz.prog 312:=⟨Tryz.f312,Tryz.func312,by kernel_rfl,by kernel_rfl⟩
theorem OY(nx id:Nat)(hid:id<nx)(L:List Ext)(hl:L.length<=65536):aI Tryz.prog 312 [.view id 0 L.length 2 none] ⟨[(id,cn L)],[],nx⟩ (.view nx 0 L.length 2 none) ⟨[(id,cn L),(nx,cn L)],[],nx+1⟩:=by
 have hne:¬id=nx:=by omega
 have mc:¬nx=id:=by omega
 have hlt:id<nx+1:=by omega
 have lZ:List.take (L.length*2) ((cW L).map AV.p)=(cW L).map AV.p:=List.take_of_length_le (by simp);refine DR (pre:=[]) (post:=[]) Ka (fun c h1 h2 h3=>?_) ?_
 ·obtain⟨c,rfl⟩:∃d,c=d+1:=⟨c-1,by omega⟩;refine QgQ (rs:=[_]) [7] [] [] Tryz.func312 rfl (by simp[Tryz.ntmps312]) ?_;simp[Tryz.results312,hne];exact⟨by omega,by omega,[],by simp[hne,hlt,lZ]⟩
 ·intro hn;have hL:L=[]:=List.eq_nil_of_length_eq_zero hn;subst hL;refine qZ (pre:=[]) (post:=[]) Ka (fun _=>?_) ?_
  ·have key:aI Tryz.prog 312 [.p .nil] ⟨[(id,cn [])],[],nx⟩ (.p .nil) ⟨[(id,cn [])],[],nx⟩:=by
    refine QgQ (rs:=[.p .nil]) [7] [] [] Tryz.func312 rfl (by simp[Tryz.ntmps312]) ?_;simp[Tryz.results312];exact⟨[],by simp[hid]⟩
   have:=fU (el:=157) (s:=2) key trivial;refine z6 this (fun i o ho=>?_) (fun i o ho=>ho) (Nat.le_refl _);simp only[Tb.aT,lk]at ho⊢;split at ho
   ·rename_i h;subst h;rw[if_neg hne];simpa using ho
   ·split at ho
    ·rename_i h;rw[if_pos h];exact ho
    ·cases ho
  ·refine QgQ (rs:=[_]) [7] [] [] Tryz.func312 rfl (by simp[Tryz.ntmps312]) ?_;simp[Tryz.results312,hne];exact⟨[],by simp[hne,hlt]⟩
theorem VD(m f r w nx n:Nat)(h:JL m f r w nx)(F R W:List Ext)(hl:F.length<=65536):aI Tryz.prog 232 [.obj m 0] ⟨dU m f r w n F R W,[],nx⟩ (.view nx 0 F.length 2 none) ⟨(nx,cn F)::dU m f r w n F R W,[],nx+1⟩:=by
 obtain⟨hm,hf,hr,hw,mf,mr,mw,fr,fw,nC⟩:=h;have oZ:=Ne.symm mf;have pS:=Ne.symm mr;have pT:=Ne.symm mw;have sU:=Ne.symm fr;have ux:=Ne.symm fw;have qJ:=Ne.symm nC;have q1:¬m=nx:=by omega
 have p1:¬nx=m:=by omega
 have q2:¬m=nx+1:=by omega
 have p2:¬nx+1=m:=by omega
 have q3:¬m=nx+1+1:=by omega
 have p3:¬nx+1+1=m:=by omega
 have Bl:m<nx+1:=by omega
 have JO:m<nx+1+1:=by omega
 have lm3:m<nx+1+1+1:=by omega
 have km:m<nx+3:=by omega
 have q4:¬f=nx:=by omega
 have p4:¬nx=f:=by omega
 have q5:¬f=nx+1:=by omega
 have p5:¬nx+1=f:=by omega
 have q6:¬f=nx+1+1:=by omega
 have p6:¬nx+1+1=f:=by omega
 have oa:f<nx+1:=by omega
 have Vu:f<nx+1+1:=by omega
 have lf3:f<nx+1+1+1:=by omega
 have kf:f<nx+3:=by omega
 have q7:¬r=nx:=by omega
 have p7:¬nx=r:=by omega
 have q8:¬r=nx+1:=by omega
 have p8:¬nx+1=r:=by omega
 have q9:¬r=nx+1+1:=by omega
 have p9:¬nx+1+1=r:=by omega
 have Bx:r<nx+1:=by omega
 have OE:r<nx+1+1:=by omega
 have lr3:r<nx+1+1+1:=by omega
 have kr:r<nx+3:=by omega
 have q10:¬w=nx:=by omega
 have Tv:¬nx=w:=by omega
 have q11:¬w=nx+1:=by omega
 have Fl:¬nx+1=w:=by omega
 have q12:¬w=nx+1+1:=by omega
 have Fm:¬nx+1+1=w:=by omega
 have Fh:w<nx+1:=by omega
 have OF:w<nx+1+1:=by omega
 have lw3:w<nx+1+1+1:=by omega
 have kw:w<nx+3:=by omega
 refine QgQ (rs:=[_]) [] [] [] Tryz.func232 rfl (by simp[Tryz.ntmps232]) ?_;simp[dU,iM,gj];refine az (OY nx f hf F hl) (by simp) (by simp[ay,oZ]) trivial rfl ?_;simp[Tryz.results232];exact⟨[],by simp[mf,oZ,mr,pS,mw,pT,fr,sU,fw,ux,nC,qJ,q1,p1,Bl,p4,oa,q7,p7,Bx,q10,Tv,Fh]⟩
end Go.Av
namespace Go.aW
theorem sD(f:Nat->Int):∀(d n i j:Nat),j-i<=d->j-i<=n->yw f n i j=yw f d i j
 |0,0,_,_,_,_=>rfl
 |0,n+1,i,j,h,_=>by unfold yw;rw[if_neg (by omega)]
 |d+1,0,i,j,_,h=>by unfold yw;rw[if_neg (by omega)]
 |d+1,n+1,i,j,h1,h2=>by
  unfold yw;by_cases c:i<j
  ·rw[if_pos c,if_pos c];split
   ·exact sD f d n _ _ (by omega) (by omega)
   ·exact sD f d n _ _ (by omega) (by omega)
  ·rw[if_neg c,if_neg c]
end Go.aW
namespace Go.Av
open Go.Proofs Go.aW
theorem D_(g:FuncId)(key:List UInt8)(f:Kn->Int)(l:List Kn)(hl:l.length<=1000000)(hg:∀x∈l,aB Tryz.prog g [PF x,.str key] (.int (f x)))(c:Nat->Int)(hc:∀i (h:i<l.length),c i=f l[i]):aB Tryz.prog 154 [.sl (l.map PF),.str key,.fn (.func g) []] (.tp [.int (yw c l.length 0 l.length),.bool (decide (yw c l.length 0 l.length<l.length)&&(c (yw c l.length 0 l.length)==0))]):=by
 refine QpQ (ys:=[_,_]) [] [] [] Tryz.func154 rfl (by simp[Tryz.ntmps154]) ?_;simp;obtain⟨R,hR⟩:∃R,yw c l.length 0 l.length=R:=⟨_,rfl⟩;rw[hR];refine bW (fun ij:Nat×Nat=>ij.1<=ij.2/\ij.2<=l.length/\yw c (ij.2-ij.1) ij.1 ij.2=R) (fun ij=>[(0,.p (.sl (l.map PF))),(1,.p (.str key)),(2,.p (.fn (.func g) [])),(8,.p (.int l.length)),(9,.p (.int ij.1)),(10,.p (.int ij.2))]) (fun ij=>ij.2-ij.1) (0,l.length) ⟨by simp,by simp,by simpa using hR⟩ (aA (by simp)) ?_;rintro⟨i,j⟩ ⟨h1,h2,h3⟩;simp only at h1 h2 h3;by_cases c1:i<j
 ·obtain⟨h,hh⟩:∃h,h=(i+j)/2:=⟨_,rfl⟩;have w0:IntKind.i64.wrap ((i:Int)+(j:Int))=((i+j:Nat):Int):=by rw[af (by omega) (by omega)];simp
  have hm:h<l.length:=by omega
  have wm:IntKind.i64.wrap ((IntKind.u64.wrap ((i:Int)+(j:Int))).fdiv (2^min 1 IntKind.u64.bits))=(h:Int):=by
   have e1:IntKind.u64.wrap ((i:Int)+(j:Int))=((i+j:Nat):Int):=by exact xV (by omega) (by omega)
   have e2:(2:Int)^min 1 IntKind.u64.bits=2:=rfl;rw[e1,e2,Int.fdiv_eq_ediv_of_nonneg _ (by omega),hh,af (by omega) (by omega)];simp
  have hch:=hc h hm;have hs:yw c (j-i) i j=if c h<0 then yw c (j-(h+1)) (h+1) j else yw c (h-i) i h:=by
   obtain⟨d,hd⟩:∃d,j-i=d+1:=⟨j-i-1,by omega⟩;rw[hd,yw,if_pos c1,<-hh];split
   ·exact sD c _ _ _ _ (by omega) (by omega)
   ·exact sD c _ _ _ _ (by omega) (by omega)
  rw[hs]at h3;simp[c1,w0,wm,hm];refine ai (hg l[h] (List.getElem_mem hm)) (by simp) ?_;rw[<-hch];by_cases c2:c h<0
  ·rw[if_pos c2]at h3;have wh:IntKind.i64.wrap ((h:Int)+1)=(h:Int)+1:=af (by omega) (by omega);simp[c2,wh];exact⟨h+1,j,⟨by omega,h2,h3⟩,by omega,aA (by simp)⟩
  ·rw[if_neg c2]at h3;simp[c2];exact⟨i,h,⟨by omega,by omega,h3⟩,by omega,aA (by simp)⟩
 ·have hij:i=j:=by omega
  subst hij;have hRi:R=i:=by rw[<-h3];simp[yw]
  subst hRi;by_cases c3:R<l.length
  ·simp[c3];refine ai (hg l[R] (List.getElem_mem c3)) (by simp) ?_;rw[<-hc R c3];simp[Tryz.results154]
  ·simp[c3,Tryz.results154]
end Go.Av
namespace Go.cI
abbrev Key:=List UInt8
abbrev je:=List (Key×Int)
abbrev lt(a b:Key):Prop:=Op.bytesLess a b=true
instance(a b:Key):Decidable (lt a b):=inferInstanceAs (Decidable (_=true))
theorem MN:∀(a b:List UInt8),Op.bytesLess b a=(!Op.bytesLess a b&&!a==b)
 |[],[]=>rfl
 |[],_::_=>rfl
 |_::_,[]=>rfl
 |x::a,y::b=>by
  have ih:=MN a b;rcases Nat.lt_trichotomy x.toNat y.toNat with h|h|h
  ·have h1:x<y:=h;have h2:¬y<x:=fun k=>by have:y.toNat<x.toNat:=k;omega
   have h3:(y==x)=false:=by simp;intro e;subst e;omega
   simp[Op.bytesLess,h1,h2,h3]
  ·have h1:x=y:=UInt8.toNat_inj.mp h;subst h1;have h2:¬x<x:=fun k=>by have:x.toNat<x.toNat:=k;omega
   simp[Op.bytesLess,h2,ih]
  ·have h1:y<x:=h;have h2:¬x<y:=fun k=>by have:x.toNat<y.toNat:=k;omega
   have h3:(x==y)=false:=by simp;intro e;subst e;omega
   have h4:x≠y:=by intro e;subst e;omega
   simp[Op.bytesLess,h1,h2,h3,h4]
theorem pL:∀a:List UInt8,Op.bytesLess a a=false
 |[]=>rfl
 |x::a=>by
  have h2:¬x<x:=fun k=>by have:x.toNat<x.toNat:=k;omega
  simp[Op.bytesLess,h2,pL a]
theorem sB:∀{a b c:List UInt8},Op.bytesLess a b=true->Op.bytesLess b c=true->Op.bytesLess a c=true
 |_,[],_,h,_=>by simp[Op.bytesLess]at h
 |_,_::_,[],_,h=>by simp[Op.bytesLess]at h
 |[],_::_,_::_,_,_=>rfl
 |x::a,y::b,z::c,h,k=>by
  simp only[Op.bytesLess,Bool.or_eq_true,decide_eq_true_eq,Bool.and_eq_true,beq_iff_eq]at h k⊢;have lt_iff:∀p q:UInt8,p<q↔p.toNat<q.toNat:=fun p q=>Iff.rfl;simp only[lt_iff]at h k⊢;rcases h with h|⟨h,h'⟩
  ·rcases k with k|⟨k,k'⟩
   ·exact .inl (by omega)
   ·subst k;exact .inl h
  ·subst h;rcases k with k|⟨k,k'⟩
   ·exact .inl k
   ·subst k;exact .inr ⟨rfl,sB h' k'⟩
theorem lt_irrefl(a:Key):¬lt a a:=by unfold lt;rw[pL];exact Bool.false_ne_true
theorem lt_trans{a b c:Key}(h:lt a b)(k:lt b c):lt a c:=sB h k
theorem lt_asymm{a b:Key}(h:lt a b):¬lt b a:=fun k=>lt_irrefl a (lt_trans h k)
theorem nlt{a b:Key}(h:¬lt a b):a=b\/lt b a:=by
 have:=MN a b;have h':Op.bytesLess a b=false:=by simpa[lt]using h
 rw[h']at this;by_cases e:a=b
 ·exact .inl e
 ·right;simp[lt,this,e]
abbrev le(a b:Key):Prop:=¬lt b a
theorem le_refl(a:Key):le a a:=lt_irrefl a
theorem ahu{a b:Key}(h:lt a b):le a b:=lt_asymm h
theorem aht{a b c:Key}(h:le a b)(k:lt b c):lt a c:=by
 rcases nlt h with e|e
 ·subst e;exact k
 ·exact lt_trans e k
theorem lt_of_lt_le{a b c:Key}(h:lt a b)(k:le b c):lt a c:=by
 rcases nlt k with e|e
 ·subst e;exact h
 ·exact lt_trans h e
theorem le_trans{a b c:Key}(h:le a b)(k:le b c):le a c:=fun e=>k (lt_of_lt_le e h)
def place(l:je)(key:Key):Nat:=(l.takeWhile fun x=>Op.bytesLess x.1 key).length
structure Nd where
 lf:Bool
 ks:List Key
 vs:List Int
 deriving Inhabited,DecidableEq
structure iC where
 nd:List Nd
 th:List Bool
 sv:Int
 fl:Int
def iC.get(s:iC)(p:Int):Option Nd:=if 1<=p/\p<=s.nd.length/\s.th.getD (p.toNat-1) false=true then s.nd[p.toNat-1]? else none
def MA(ks:List Key):Prop:=ks.Pairwise lt
def kOk(k:Key):Prop:=1<=k.length/\k.length<=100
def vOk(v:Int):Prop:=0<=v/\v<1099511627776
structure Right(n:Nd):Prop where
 Lw:MA n.ks
 keys:∀k∈n.ks,kOk k
 vals:∀v∈n.vs,vOk v
 len:n.ks.length<=4
 form:n.vs.length=n.ks.length+(if n.lf then 0 else 1)
 inner:n.lf=false->1<=n.ks.length
structure zx(n:Nd):Prop where
 Lw:MA n.ks
 keys:∀k∈n.ks,kOk k
 vals:∀v∈n.vs,vOk v
 form:n.vs.length=n.ks.length+(if n.lf then 0 else 1)
def full(n:Nd):Prop:=(if n.lf then 2 else 1)<=n.ks.length
def Win(lo:Key)(hi:Option Key)(k:Key):Prop:=le lo k/\∀h,hi=some h->lt k h
abbrev Rel:=Int->Key->Option Key->je->List Int->Prop
def Kids(R:Rel):Key->List Key->Option Key->List Int->je->List Int->Prop
 |lo,[],hi,[v],lH,pg=>R v lo hi lH pg
 |lo,k::ks,hi,v::vs,lH,pg=>∃i1 p1 i2 p2,R v lo (some k) i1 p1/\Kids R k ks hi vs i2 p2/\lH=i1++i2/\pg=p1++p2
 |_,_,_,_,_,_=>False
def At(N:Nd->Key->Option Key->je->List Int->Prop)(s:iC):Rel:=fun v lo hi lH pg=>∃n BN,s.get v=some n/\Right n/\full n/\N n lo hi lH BN/\pg=v::BN
def Has(s:iC):Nat->Nd->Key->Option Key->je->List Int->Prop
 |0,n,lo,hi,lH,pg=>n.lf=true/\zx n/\(∀k∈n.ks,Win lo hi k)/\lH=n.ks.zip n.vs/\pg=[]
 |h+1,n,lo,hi,lH,pg=>n.lf=false/\zx n/\(∀k∈n.ks,Win lo hi k)/\Kids (At (Has s h) s) lo n.ks hi n.vs lH pg
def Tr(s:iC)(h:Nat):Rel:=At (Has s h) s
theorem xP{R R':Rel}{Q:Int->Prop}(hR:∀v lo hi lH pg,R v lo hi lH pg->(∀p∈pg,Q p)->R' v lo hi lH pg):∀{lo:Key} {ks:List Key} {hi:Option Key} {vs:List Int} {lH:je} {pg:List Int},Kids R lo ks hi vs lH pg->(∀p∈pg,Q p)->Kids R' lo ks hi vs lH pg
 |_,[],_,[],_,_,h,_=>by simp[Kids]at h
 |_,[],_,[v],_,_,h,hq=>hR _ _ _ _ _ h hq
 |_,[],_,v::w::vs,_,_,h,_=>by simp[Kids]at h
 |_,k::ks,_,[],_,_,h,_=>by simp[Kids]at h
 |_,k::ks,_,v::vs,_,_,h,hq=>by
  obtain⟨i1,p1,i2,p2,h1,h2,h3,h4⟩:=h;subst h4;exact⟨i1,p1,i2,p2,hR _ _ _ _ _ h1 fun p hp=>hq p (by simp[hp]),xP hR h2 fun p hp=>hq p (by simp[hp]),h3,rfl⟩
theorem CG{s s':iC}{Q:Int->Prop}(hs:∀p n,Q p->s.get p=some n->s'.get p=some n):∀(h:Nat) {n:Nd} {lo:Key} {hi:Option Key} {lH:je} {pg:List Int},Has s h n lo hi lH pg->(∀p∈pg,Q p)->Has s' h n lo hi lH pg
 |0,_,_,_,_,_,hh,_=>hh
 |h+1,n,lo,hi,lH,pg,⟨h1,h2,h3,h4⟩,hq=>by
  refine⟨h1,h2,h3,xP (Q:=Q) (fun v lo hi lH pg hr hq=>?_) h4 hq⟩;obtain⟨m,BN,e1,e2,e3,e4,rfl⟩:=hr;exact⟨m,BN,hs _ _ (hq _ (by simp)) e1,e2,e3,CG hs h e4 fun p hp=>hq p (by simp[hp]),rfl⟩
theorem vG{ks:List Key}(h:MA ks){i j:Nat}(hij:i<j)(hj:j<ks.length):lt ks[i] ks[j]:=List.pairwise_iff_getElem.1 h i j (by omega) hj hij
def ni(lo:Key)(ks:List Key):Nat->Key
 |0=>lo
 |c+1=>ks.getD c []
theorem wT{R:Rel}:∀{lo:Key} {ks:List Key} {hi:Option Key} {vs:List Int} {lH:je} {pg:List Int} (i:Nat) (hi':i<ks.length),Kids R lo ks hi vs lH pg->∃i1 i2 p1 p2,Kids R lo (ks.take i) (some ks[i]) (vs.take (i+1)) i1 p1/\Kids R ks[i] (ks.drop (i+1)) hi (vs.drop (i+1)) i2 p2/\lH=i1++i2/\pg=p1++p2
 |_,[],_,_,_,_,i,h,_=>by simp at h
 |_,k::ks,_,[],_,_,_,_,h=>by simp[Kids]at h
 |lo,k::ks,hi,v::vs,_,_,0,_,h=>by
  obtain⟨i1,p1,i2,p2,h1,h2,rfl,rfl⟩:=h;exact⟨i1,i2,p1,p2,by simpa[Kids]using h1,by simpa using h2,rfl,rfl⟩
 |lo,k::ks,hi,v::vs,_,_,i+1,hi',h=>by
  obtain⟨i1,p1,i2,p2,h1,h2,rfl,rfl⟩:=h;obtain⟨j1,j2,q1,q2,e1,e2,rfl,rfl⟩:=wT i (by simpa using hi') h2;exact⟨i1++j1,j2,p1++q1,q2,⟨i1,p1,j1,q1,h1,by simpa using e1,rfl,rfl⟩,by simpa using e2,by simp,by simp⟩
def bh(n:Nd):Nat:=if n.lf then 0 else 1
def fV(n:Nd)(i:Nat)(key:Key)(us:List Int):Nd:=⟨n.lf,n.ks.take i++key::n.ks.drop i,n.vs.take i++us++n.vs.drop (if n.lf then i else i+1)⟩
def lV(n:Nd)(i:Nat):Nd:=⟨n.lf,n.ks.take i++n.ks.drop (i+1),n.vs.take (i+bh n)++n.vs.drop (i+bh n+1)⟩
def Dx(n:Nd):Bool:=n.vs.length==n.ks.length+(if n.lf then 0 else 1)
def iZ(n:Nd):Nd:=⟨n.lf,n.ks.take (n.ks.length/2),n.vs.take (n.ks.length/2+bh n)⟩
def i_(n:Nd):Nd:=⟨n.lf,n.ks.drop (n.ks.length/2+bh n),n.vs.drop (n.ks.length/2+bh n)⟩
def mF(n:Nd):Key:=n.ks.getD (n.ks.length/2) []
def gv(n:Nd):Nd:=if Dx n then iZ n else n
def jX(n:Nd):Nd:=if Dx n then i_ n else⟨n.lf,[],[]⟩
def qj(n:Nd):Key:=if Dx n then mF n else[]
def ke(n:Nd)(c:Nat)(p:Int):Nd:=⟨n.lf,n.ks,n.vs.set c p⟩
def iC.add(s:iC)(n:Nd):iC:=⟨s.nd++[n],s.th++[true],s.sv+1,s.fl⟩
def iC.save(s:iC)(n:Nd):iC×Int×Int:=if s.sv+1=s.fl then(⟨s.nd,s.th,s.sv+1,s.fl⟩,0,30)else(s.add n,(s.nd.length+1:Nat),0)
def iC.N(s:iC):Nat:=s.nd.length
def iC.Wf(s:iC):Prop:=s.th.length=s.nd.length
structure Ext(s s':iC):Prop where
 ex:∃X,s'.nd=s.nd++X/\s'.th=s.th++List.replicate X.length true
 fl:s'.fl=s.fl
 sv:s.sv<=s'.sv
theorem Ext.refl(s:iC):Ext s s:=⟨⟨[],by simp,by simp⟩,rfl,Int.le_refl _⟩
theorem Ext.trans{a b c:iC}(h:Ext a b)(k:Ext b c):Ext a c:=by
 obtain⟨⟨X,h1,h2⟩,h3,h4⟩:=h;obtain⟨⟨Y,k1,k2⟩,k3,k4⟩:=k;exact⟨⟨X++Y,by rw[k1,h1,List.append_assoc],by rw[k2,h2,List.append_assoc,List.length_append,List.replicate_append_replicate]⟩,k3.trans h3,Int.le_trans h4 k4⟩
theorem Ext.wf{s s':iC}(h:Ext s s')(w:s.Wf):s'.Wf:=by
 obtain⟨⟨X,h1,h2⟩,_⟩:=h;unfold iC.Wf at*;rw[h1,h2];simp[w]
theorem Ext.get{s s':iC}(h:Ext s s')(w:s.Wf){p:Int}{n:Nd}(e:s.get p=some n):s'.get p=some n:=by
 obtain⟨⟨X,h1,h2⟩,_⟩:=h;unfold iC.Wf at w;unfold iC.get at*;split at e
 ·rename_i hc;obtain⟨c1,c2,c3⟩:=hc;have hlt:p.toNat-1<s.nd.length:=by omega
  rw[if_pos ⟨c1,by rw[h1];simp;omega,by rw[h2];simp only[List.getD_eq_getElem?_getD]at c3⊢;rw[List.getElem?_append_left (by omega)];exact c3⟩];rw[h1,List.getElem?_append_left hlt];exact e
 ·cases e
theorem tU(s:iC)(n:Nd)(w:s.Wf):Ext s (s.save n).1/\((s.save n).2.2=30/\(s.save n).1.N=s.N\/(s.save n).2.2=0/\(s.save n).2.1=(s.N+1:Nat)/\(s.save n).1.get (s.N+1:Nat)=some n/\(s.save n).1.N=s.N+1):=by
 unfold iC.save;split
 ·exact⟨⟨⟨[],by simp,by simp⟩,rfl,by simp only;omega⟩,.inl ⟨rfl,rfl⟩⟩
 ·refine⟨⟨⟨[n],rfl,rfl⟩,rfl,by simp only[iC.add];omega⟩,.inr ⟨rfl,rfl,?_,by simp[iC.N,iC.add]⟩⟩;unfold iC.Wf at w;unfold iC.get iC.add iC.N;simp only[List.length_append,List.length_cons,List.length_nil,List.getD_eq_getElem?_getD];rw[if_pos ⟨by omega,by omega,by rw[show((s.nd.length+1:Nat):Int).toNat-1=s.th.length by omega];simp⟩];rw[show((s.nd.length+1:Nat):Int).toNat-1=s.nd.length by omega];simp
def cr(n m:Nat)(a:Int):Nat:=if(n:Int)<a/\a<=(m:Int)then 1 else 0
theorem XF{n m k:Nat}(h:n<=m)(h2:m<=k)(a:Int):cr n k a=cr n m a+cr m k a:=by
 unfold cr;split<;>split<;>split<;>omega
theorem EH(n:Nat)(a:Int):cr n (n+1) a=[((n+1:Nat):Int)].count a:=by
 unfold cr;simp only[List.count_cons,List.count_nil,beq_iff_eq];split<;>split<;>omega
def iR(s:iC)(n:Nd):iC×List Int×Key×Int:=if n.ks.length<=4 then((s.save n).1,[(s.save n).2.1],[],(s.save n).2.2)else if(s.save (gv n)).2.2=0 then(((s.save (gv n)).1.save (jX n)).1,[(s.save (gv n)).2.1,((s.save (gv n)).1.save (jX n)).2.1],qj n,((s.save (gv n)).1.save (jX n)).2.2)else((s.save (gv n)).1,[],[],(s.save (gv n)).2.2)
def One(s:iC)(h:Nat)(lo:Key)(hi:Option Key)(lH:je)(XG:List Int)(pages:List Int)(n:Nd):Prop:=∃p pg,pages=[p]/\s.get p=some n/\Right n/\Has s h n lo hi lH pg/\XG=p::pg
def Two(s:iC)(h:Nat)(lo:Key)(hi:Option Key)(lH:je)(XG:List Int)(pages:List Int)(key:Key):Prop:=∃p q i1 i2 p1 p2,pages=[p,q]/\Tr s h p lo (some key) i1 p1/\Tr s h q key hi i2 p2/\lH=i1++i2/\XG=p1++p2/\kOk key/\lt lo key/\∀x,hi=some x->lt key x
theorem Mz{ks:List Key}(h:MA ks)(i:Nat):MA (ks.take i):=List.Pairwise.sublist (List.take_sublist _ _) h
theorem MB{ks:List Key}(h:MA ks)(i:Nat):MA (ks.drop i):=List.Pairwise.sublist (List.drop_sublist _ _) h
theorem AZ{s s':iC}(e:Ext s s')(w:s.Wf){h:Nat}{n:Nd}{lo:Key}{hi:Option Key}{lH:je}{pg:List Int}(hh:Has s h n lo hi lH pg):Has s' h n lo hi lH pg:=CG (Q:=fun _=>True) (fun _ _ _ hg=>e.get w hg) h hh fun _ _=>trivial
theorem Ip{s:iC}{h:Nat}{n:Nd}{lo:Key}{hi:Option Key}{lH:je}{pg:List Int}(hh:Has s h n lo hi lH pg)(h5:n.ks.length=5):Right (iZ n)/\full (iZ n)/\Right (i_ n)/\full (i_ n)/\kOk (mF n)/\lt lo (mF n)/\(∀x,hi=some x->lt (mF n) x)/\∃i1 i2 p1 p2,Has s h (iZ n) lo (some (mF n)) i1 p1/\Has s h (i_ n) (mF n) hi i2 p2/\lH=i1++i2/\pg=p1++p2:=by
 have hL:zx n:=by cases h<;>exact hh.2.1
 have hW:∀k∈n.ks,Win lo hi k:=by cases h<;>exact hh.2.2.1
 have e2:n.ks.length/2=2:=by omega
 have ek:mF n=n.ks[2]'(by omega):=by unfold mF;rw[e2,List.getD_eq_getElem?_getD,List.getElem?_eq_getElem (by omega)];rfl
 have hk2:n.ks[2]'(by omega)∈n.ks:=List.getElem_mem _
 have hb:bh n<=1:=by unfold bh;split<;>omega
 have hf:=hL.form;have hf':n.vs.length=5+bh n:=by rw[hf,h5];unfold bh;split<;>rfl
 have lA:(iZ n).ks.length=2:=by simp[iZ,e2];omega
 have lB:(i_ n).ks.length=5-(2+bh n):=by simp[i_,e2,h5]
 have vA:(iZ n).vs.length=2+bh n:=by simp[iZ,e2];omega
 have vB:(i_ n).vs.length=5+bh n-(2+bh n):=by simp[i_,e2,hf']
 have fA:bh (iZ n)=bh n:=rfl;have fB:bh (i_ n)=bh n:=rfl;have LA:zx (iZ n):=⟨Mz hL.Lw _,fun k hk=>hL.keys k (List.mem_of_mem_take hk),fun v hv=>hL.vals v (List.mem_of_mem_take hv),by
  rw[vA,lA];show _=2+(if n.lf then 0 else 1);unfold bh;rfl⟩
 have LB:zx (i_ n):=⟨MB hL.Lw _,fun k hk=>hL.keys k (List.mem_of_mem_drop hk),fun v hv=>hL.vals v (List.mem_of_mem_drop hv),by
  rw[vB,lB];show _=_+(if n.lf then 0 else 1);unfold bh;split<;>omega⟩
 have RA:Right (iZ n):=⟨LA.Lw,LA.keys,LA.vals,by omega,LA.form,fun _=>by omega⟩;have RB:Right (i_ n):=⟨LB.Lw,LB.keys,LB.vals,by omega,LB.form,fun _=>by omega⟩;have lo2:lt lo (mF n):=by
  rw[ek];exact aht (hW _ (List.getElem_mem (show 0<n.ks.length by omega))).1 (vG hL.Lw (by omega) (by omega))
 refine⟨RA,?_,RB,?_,by rw[ek];exact hL.keys _ hk2,lo2,fun x hx=>by rw[ek];exact(hW _ hk2).2 x hx,?_⟩
 ·unfold full;rw[lA];split<;>omega
 ·unfold full;rw[lB];show(if n.lf then 2 else 1)<=_;unfold bh;split<;>simp_all
 have hWA:∀k∈(iZ n).ks,Win lo (some (mF n)) k:=fun k hk=>by
  refine⟨(hW k (List.mem_of_mem_take hk)).1,fun x hx=>?_⟩;injection hx with hx;subst hx;rw[ek];have hk':k∈n.ks.take 2:=by simpa[iZ,e2]using hk
  obtain⟨j,hj,rfl⟩:=List.getElem_of_mem hk';simp only[List.length_take]at hj;rw[List.getElem_take];exact vG hL.Lw (by omega) (by omega)
 have hWB:∀k∈(i_ n).ks,Win (mF n) hi k:=fun k hk=>by
  refine⟨?_,(hW k (List.mem_of_mem_drop hk)).2⟩;rw[ek];have hk':k∈n.ks.drop (2+bh n):=by simpa[i_,e2]using hk
  obtain⟨j,hj,rfl⟩:=List.getElem_of_mem hk';simp only[List.length_drop]at hj;rw[List.getElem_drop];rcases Nat.eq_zero_or_pos (bh n+j)with h0|h0
  ·have:2+bh n+j=2:=by omega
   simp only[this];exact le_refl _
  ·exact ahu (vG hL.Lw (by omega) (by omega))
 cases h with
 |zero=>
  obtain⟨h1,h2,h3,rfl,rfl⟩:=hh;have hb0:bh n=0:=by unfold bh;rw[h1];rfl
  refine⟨_,_,[],[],⟨h1,LA,hWA,rfl,rfl⟩,⟨h1,LB,hWB,rfl,rfl⟩,?_,rfl⟩;show n.ks.zip n.vs=(n.ks.take _).zip (n.vs.take _)++(n.ks.drop _).zip (n.vs.drop _);rw[hb0,Nat.add_zero];simp only[List.zip,<-List.take_zipWith,<-List.drop_zipWith,List.take_append_drop]
 |succ h=>
  obtain⟨h1,h2,h3,h4⟩:=hh;have hb0:bh n=1:=by unfold bh;rw[h1];rfl
  obtain⟨i1,i2,p1,p2,k1,k2,k3,k4⟩:=wT 2 (by omega) h4;refine⟨i1,i2,p1,p2,⟨h1,LA,hWA,?_⟩,⟨h1,LB,hWB,?_⟩,k3,k4⟩
  ·have:(iZ n).ks=n.ks.take 2/\(iZ n).vs=n.vs.take 3:=by simp[iZ,e2,hb0]
   rw[this.1,this.2,ek];exact k1
  ·have:(i_ n).ks=n.ks.drop 3/\(i_ n).vs=n.vs.drop 3:=by simp[i_,e2,hb0]
   rw[this.1,this.2,ek];exact k2
theorem zW{s:iC}{h:Nat}{n:Nd}{lo:Key}{hi:Option Key}{lH:je}{pg:List Int}(w:s.Wf)(hh:Has s h n lo hi lH pg)(h5:n.ks.length<=5)(h1:n.lf=false->1<=n.ks.length):Ext s (iR s n).1/\((iR s n).2.2.2=30\/(iR s n).2.2.2=0/\∃XG,(One (iR s n).1 h lo hi lH XG (iR s n).2.1 n\/Two (iR s n).1 h lo hi lH XG (iR s n).2.1 (iR s n).2.2.1)/\∀a,XG.count a=pg.count a+cr s.N (iR s n).1.N a):=by
 have hL:zx n:=by cases h<;>exact hh.2.1
 unfold iR;split
 ·rename_i h4;obtain⟨e,hs⟩:=tU s n w;refine⟨e,?_⟩;rcases hs with⟨hs,_⟩|⟨s1,s2,s3,s4⟩
  ·exact .inl hs
  ·refine .inr ⟨s1,_,.inl ⟨_,pg,rfl,by simp only[s2];exact s3,⟨hL.Lw,hL.keys,hL.vals,h4,hL.form,h1⟩,AZ e w hh,rfl⟩,fun a=>?_⟩;simp only;rw[s4,EH,s2];simp only[List.count_cons,List.count_nil];omega
 ·rename_i h4;have hh5:n.ks.length=5:=by omega
  have fm:Dx n=true:=by unfold Dx;rw[hL.form];simp
  have eA:gv n=iZ n:=by simp[gv,fm]
  have eB:jX n=i_ n:=by simp[jX,fm]
  have eK:qj n=mF n:=by simp[qj,fm]
  obtain⟨RA,FA,RB,FB,kk,kl,kh,i1,i2,p1,p2,HA,HB,hi',hp⟩:=Ip hh hh5;rw[<-eA]at RA FA HA;rw[<-eB]at RB FB HB;rw[<-eK]at kk kl kh HA HB;obtain⟨e,hs⟩:=tU s (gv n) w;split
  ·rename_i he;rcases hs with⟨hs,_⟩|⟨s1,s2,s3,s4⟩
   ·rw[hs]at he;cases he
   have w1:=e.wf w;obtain⟨e',ht⟩:=tU (s.save (gv n)).1 (jX n) w1;refine⟨e.trans e',?_⟩;rcases ht with⟨ht,_⟩|⟨t1,t2,t3,t4⟩
   ·exact .inl ht
   ·refine .inr ⟨t1,?_⟩;simp only;have EA:=AZ (e.trans e') w HA;have EB:=AZ (e.trans e') w HB;refine⟨_,.inr ⟨_,_,i1,i2,_,_,rfl,⟨_,p1,by rw[s2];exact e'.get w1 s3,RA,FA,EA,rfl⟩,⟨_,p2,by rw[t2];exact t3,RB,FB,EB,rfl⟩,hi',rfl,kk,kl,kh⟩,fun a=>?_⟩;rw[t2,s2,t4,s4,hp,XF (m:=s.N+1) (by omega) (by omega),EH,EH];simp only[List.cons_append,List.count_cons,List.count_append,List.count_nil];omega
  ·rename_i he;rcases hs with⟨hs,_⟩|⟨s1,s2,s3,s4⟩
   ·exact⟨e,.inl hs⟩
   ·exact absurd s1 he
structure Step where
 n:Nd
 p:Int
 c:Nat
 deriving Inhabited
def dm(n:Nd)(key:Key):Nat:=(n.ks.takeWhile fun k=>!Op.bytesLess key k).length
def bY(n:Nd)(key:Key):Nat:=(n.ks.takeWhile fun k=>Op.bytesLess k key).length
def rq(n:Nd)(key:Key):Bool:=n.ks[bY n key]?==some key
theorem Pj{α:Type}(q:α->Bool)(l:List α):(∀x∈l.take (l.takeWhile q).length,q x=true)/\∀h:(l.takeWhile q).length<l.length,q l[(l.takeWhile q).length]=false:=by
 induction l with
 |nil=>simp
 |cons x l ih=>
  by_cases c:q x=true
  ·simp only[List.takeWhile_cons,c,if_true,List.length_cons,List.take_succ_cons,List.mem_cons,forall_eq_or_imp,List.getElem_cons_succ,true_and];exact⟨ih.1,fun h=>ih.2 (by omega)⟩
  ·simp only[List.takeWhile_cons,c,Bool.false_eq_true,if_false,List.length_nil,List.take_zero,List.getElem_cons_zero];exact⟨fun _ h=>by simp at h,fun _=>by simpa using c⟩
theorem Us{α:Type}(q:α->Bool)(l:List α):(l.takeWhile q).length<=l.length:=(List.takeWhile_sublist _).length_le
theorem DY{n:Nd}{key:Key}(h:rq n key=true):∃hi:bY n key<n.ks.length,n.ks[bY n key]=key:=by
 unfold rq at h;rcases Nat.lt_or_ge (bY n key) n.ks.length with hi|hi
 ·rw[List.getElem?_eq_getElem hi]at h;exact⟨hi,by simpa using h⟩
 ·rw[List.getElem?_eq_none hi]at h;cases h
def iG(n:Nd)(key:Key)(v:Int):Nd:=fV (if rq n key then lV n (bY n key)else n) (bY n key) key [v]
theorem ru(n:Nd)(key:Key):bY n key<=n.ks.length:=Us _ _
theorem MC{n:Nd}(hl:n.lf=true)(hf:n.vs.length=n.ks.length)(key:Key)(v:Int):iG n key v=⟨true,n.ks.take (bY n key)++key::n.ks.drop (if rq n key then bY n key+1 else bY n key),n.vs.take (bY n key)++v::n.vs.drop (if rq n key then bY n key+1 else bY n key)⟩:=by
 have hle:=ru n key;unfold iG;by_cases hh:rq n key=true
 ·simp only[hh,if_true,fV,lV,bh,hl,Nat.add_zero];have a1:(n.ks.take (bY n key)++n.ks.drop (bY n key+1)).take (bY n key)=n.ks.take (bY n key):=List.take_left' (by simp;omega);have a2:(n.ks.take (bY n key)++n.ks.drop (bY n key+1)).drop (bY n key)=n.ks.drop (bY n key+1):=List.drop_left' (by simp;omega);have b1:(n.vs.take (bY n key)++n.vs.drop (bY n key+1)).take (bY n key)=n.vs.take (bY n key):=List.take_left' (by simp;omega);have b2:(n.vs.take (bY n key)++n.vs.drop (bY n key+1)).drop (bY n key)=n.vs.drop (bY n key+1):=List.drop_left' (by simp;omega);rw[a1,a2,b1,b2];simp
 ·have Vo:rq n key=false:=by simpa using hh
  simp[Vo,fV,hl]
structure Up where
 s:iC
 old:List Int
 pg:List Int
 key:Key
 e:Int
def Ad(st:Step)(pg:List Int)(key:Key):Nd:=if pg.length=2 then fV st.n st.c key pg else ke st.n st.c (pg.getD 0 0)
def qM(st:Step)(u:Up):Up:=if u.e=0 then⟨(iR u.s (Ad st u.pg u.key)).1,u.old++[st.p],(iR u.s (Ad st u.pg u.key)).2.1,(iR u.s (Ad st u.pg u.key)).2.2.1,(iR u.s (Ad st u.pg u.key)).2.2.2⟩else u
def kT(s:iC)(n:Nd)(old:List Int)(key:Key)(v:Int):Up:=⟨(iR s (iG n key v)).1,old,(iR s (iG n key v)).2.1,(iR s (iG n key v)).2.2.1,(iR s (iG n key v)).2.2.2⟩
def ahQ(s:iC)(l:List Step)(x:Step)(key:Key)(v:Int):Up:=l.foldr qM (kT s x.n [x.p] key v)
theorem mI(n:Nd)(key:Key):dm n key<=n.ks.length:=Us _ _
def AH:List Key->Bool
 |[]=>true
 |[_]=>true
 |a::b::l=>Op.bytesLess a b&&AH (b::l)
def rB(n:Nd):Bool:=AH n.ks&&n.ks.all (fun k=>decide (1<=k.length)&&decide (k.length<=100))&&n.vs.all (fun v=>decide (0<=v)&&decide (v<1099511627776))&&decide (n.ks.length<=4)&&(n.vs.length==n.ks.length+(if n.lf then 0 else 1))&&(n.lf||decide (1<=n.ks.length))
theorem xp:∀(ks:List Key),AH ks=true↔MA ks
 |[]=>by simp[AH,MA]
 |[_]=>by simp[AH,MA]
 |a::b::l=>by
  have ih:=xp (b::l);simp only[AH,Bool.and_eq_true,ih,MA];constructor
  ·rintro⟨h1,h2⟩;refine List.pairwise_cons.2 ⟨fun x hx=>?_,h2⟩;rcases List.mem_cons.1 hx with rfl|hx
   ·exact h1
   ·exact lt_trans h1 ((List.pairwise_cons.1 h2).1 x hx)
  ·intro h;have:=List.pairwise_cons.1 h;exact⟨this.1 b (by simp),this.2⟩
theorem jS(n:Nd):rB n=true↔Right n:=by
 unfold rB;simp only[Bool.and_eq_true,xp,List.all_eq_true,decide_eq_true_eq,beq_iff_eq,Bool.or_eq_true];constructor
 ·rintro⟨⟨⟨⟨⟨h1,h2⟩,h3⟩,h4⟩,h5⟩,h6⟩;refine⟨h1,h2,h3,h4,h5,fun h=>?_⟩;rw[h]at h6;simpa using h6
 ·intro h;refine⟨⟨⟨⟨⟨h.Lw,h.keys⟩,h.vals⟩,h.len⟩,h.form⟩,?_⟩;cases hl:n.lf with
  |true=>exact .inl rfl
  |false=>exact .inr (h.inner hl)
def l_:Nd:=⟨false,[],[]⟩
def eZ(s:iC)(p:Int):Nd×Int:=match s.get p with
 |none=>(l_,33)
 |some n=>if rB n=true then(n,0)else(l_,10)
theorem Ae{α:Type}{l:List α}{i j:Nat}{x:α}(h:x∈l.take i++l.drop j):x∈l:=by
 rcases List.mem_append.1 h with h|h
 ·exact List.mem_of_mem_take h
 ·exact List.mem_of_mem_drop h
def j9{α:Type}(g:Int->α->α×Int)(bad:α):List Int->α->α×Int
 |[],a=>(a,0)
 |p::l,a=>if(g p a).2=0 then j9 g bad l (g p a).1 else(bad,(g p a).2)
def HI(s:iC)(key:Key):Nat->Int->List Step->List Step×Int
 |0,aG,out=>if aG=0 then(out,0)else([],10)
 |f+1,aG,out=>if aG=0 then(out,0)else
  if(eZ s aG).2=0 then
   if(eZ s aG).1.lf=true then(out++[⟨(eZ s aG).1,aG,dm (eZ s aG).1 key⟩],0)
   else HI s key f ((eZ s aG).1.vs.getD (dm (eZ s aG).1 key) 0) (out++[⟨(eZ s aG).1,aG,dm (eZ s aG).1 key⟩])
  else([],(eZ s aG).2)
def DX(x:Step)(key:Key):Int×Bool:=if rq x.n key then(x.n.vs.getD (bY x.n key) 0,true)else(0,false)
def fK(s:iC):Nat->Int->List Int->List Int×Int
 |0,_,_=>([],10)
 |f+1,aG,out=>if(eZ s aG).2=0 then
  if(eZ s aG).1.lf=true then(out++[aG],0)else j9 (fK s f) [] (eZ s aG).1.vs (out++[aG])else([],(eZ s aG).2)
def mC(aM:Key)(most:Int):je->je->je
 |[],out=>out
 |(k,v)::l,out=>mC aM most l (if !Op.bytesLess k aM&&decide ((out.length:Int)<most)then out++[(k,v)]else out)
def foldM(g:Int->je->je×Int)(most:Int):List Int->je->je×Int
 |[],a=>(a,0)
 |p::l,a=>if(a.length:Int)<most then(if(g p a).2=0 then foldM g most l (g p a).1 else([],(g p a).2))else(a,0)
def eV(s:iC)(aM:Key)(most:Int):Nat->Int->je->je×Int
 |0,_,_=>([],10)
 |f+1,aG,out=>if(eZ s aG).2=0 then
  if(eZ s aG).1.lf=true then(mC aM most ((eZ s aG).1.ks.zip (eZ s aG).1.vs) out,0)
  else foldM (eV s aM most f) most ((eZ s aG).1.vs.drop (dm (eZ s aG).1 aM)) out else([],(eZ s aG).2)
def PJ(aM:Key)(lH:je):je:=lH.filter fun x=>!Op.bytesLess x.1 aM
def Az(aM:Key)(most:Int)(out lH:je):je:=out++(PJ aM lH).take (most.toNat-out.length)
theorem Ld(aM:Key)(most:Int)(out i j:je):Az aM most (Az aM most out i) j=Az aM most out (i++j):=by
 unfold Az PJ;rw[List.filter_append,List.take_append,List.append_assoc];congr 2;simp only[List.length_append,List.length_take];rcases Nat.le_total (most.toNat-out.length) (i.filter fun x=>!Op.bytesLess x.1 aM).length with h|h
 ·rw[Nat.min_eq_left h,show most.toNat-(out.length+(most.toNat-out.length))=0 by omega,show most.toNat-out.length-(i.filter fun x=>!Op.bytesLess x.1 aM).length=0 by omega]
 ·rw[Nat.min_eq_right h,show most.toNat-(out.length+(i.filter fun x=>!Op.bytesLess x.1 aM).length)=most.toNat-out.length-(i.filter fun x=>!Op.bytesLess x.1 aM).length by omega]
theorem Le(aM:Key)(most:Int)(out:je):Az aM most out []=out:=by simp[Az,PJ]
theorem zf(aM:Key)(most:Int):∀(lH out:je),mC aM most lH out=Az aM most out lH
 |[],out=>(Le aM most out).symm
 |(k,v)::l,out=>by
  unfold mC;rw[zf aM most l,show(k,v)::l=[(k,v)]++l from rfl,<-Ld];congr 1;unfold Az PJ;by_cases h1:Op.bytesLess k aM=true
  ·simp[h1]
  ·have h1:Op.bytesLess k aM=false:=by simpa using h1
   by_cases h2:(out.length:Int)<most
   ·obtain⟨j,hj⟩:∃j,most.toNat-out.length=j+1:=⟨most.toNat-out.length-1,by omega⟩;simp[h1,h2,hj]
   ·rw[show most.toNat-out.length=0 by omega];simp[h1,h2]
def iC.drop(s:iC)(p:Int):iC:=if 1<=p/\p<=s.th.length then⟨s.nd,s.th.set (p.toNat-1) false,s.sv,s.fl⟩else s
def gV(s:iC)(l:List Int):iC:=l.foldl iC.drop s
structure Grow(s s':iC):Prop where
 nd:∃X,s'.nd=s.nd++X
 fl:s'.fl=s.fl
 sv:s.sv<=s'.sv
theorem Grow.refl(s:iC):Grow s s:=⟨⟨[],by simp⟩,rfl,Int.le_refl _⟩
theorem Grow.trans{a b c:iC}(h:Grow a b)(k:Grow b c):Grow a c:=by
 obtain⟨⟨X,h1⟩,h2,h3⟩:=h;obtain⟨⟨Y,k1⟩,k2,k3⟩:=k;exact⟨⟨X++Y,by rw[k1,h1,List.append_assoc]⟩,k2.trans h2,Int.le_trans h3 k3⟩
def jY(key:Key)(v:Int):Bool:=decide (1<=key.length)&&decide (key.length<=100)&&decide (0<=v)&&decide (v<1099511627776)
structure Ret where
 s:iC
 root:Int
 was:Int
 had:Bool
 e:Int
def tg:Nd:=⟨true,[],[]⟩
def BM(s:iC)(l:List Step)(key:Key)(v:Int):Up:=match l.getLast? with
 |none=>kT s tg [] key v
 |some x=>ahQ s l.dropLast x key v
def nG(l:List Step)(key:Key):Int×Bool:=match l.getLast? with
 |none=>(0,false)
 |some x=>DX x key
def fW(root:Int)(was:Int)(had:Bool)(u:Up):Ret:=if u.e=0 then
 if u.pg.length=2 then
  if(u.s.save ⟨false,[u.key],u.pg⟩).2.2=0 then⟨gV (u.s.save ⟨false,[u.key],u.pg⟩).1 u.old,(u.s.save ⟨false,[u.key],u.pg⟩).2.1,was,had,0⟩
  else⟨(u.s.save ⟨false,[u.key],u.pg⟩).1,root,0,false,(u.s.save ⟨false,[u.key],u.pg⟩).2.2⟩
 else⟨gV u.s u.old,u.pg.getD 0 0,was,had,0⟩else⟨u.s,root,0,false,u.e⟩
def mS(s:iC)(root:Int)(key:Key)(v:Int):Ret:=if jY key v=true then
 if(HI s key 40 root []).2=0 then fW root (nG (HI s key 40 root []).1 key).1 (nG (HI s key 40 root []).1 key).2 (BM s (HI s key 40 root []).1 key v)
 else⟨s,root,0,false,(HI s key 40 root []).2⟩else⟨s,root,0,false,2⟩
structure Ck where
 seen:List Int
 dep:Int
def xd(n:Nd)(lo:Key)(hi:Option Key):Bool:=n.ks.all fun k=>!Op.bytesLess k lo&&(match hi with|some h=>Op.bytesLess k h|none=>true)
def tv(d:Nat)(n:Nd):Nat:=if d=0 then 1 else if n.lf then 2 else 1
def iJ{α:Type}(g:Int->Key->Option Key->α->α×Int):Key->List Key->Option Key->List Int->α->α×Int
 |lo,k::ks,hi,v::vs,a=>if(g v lo (some k) a).2=0 then iJ g k ks hi vs (g v lo (some k) a).1 else g v lo (some k) a
 |lo,[],hi,v::_,a=>g v lo hi a
 |_,_,_,[],a=>(a,0)
def dz(c:Ck)(aG:Int):Ck:=⟨c.seen++[aG],c.dep⟩
def ez(s:iC):Nat->Nat->Int->Key->Option Key->Ck->Ck×Int
 |0,_,_,_,_,c=>(c,10)
 |f+1,d,aG,lo,hi,c=>
  if aG∈c.seen\/aG<1 then(c,10)
  else if(eZ s aG).2=0 then
   if tv d (eZ s aG).1<=(eZ s aG).1.ks.length/\xd (eZ s aG).1 lo hi=true then
    if(eZ s aG).1.lf=true then
     if 0<=c.dep/\c.dep≠d then(dz c aG,10)else(⟨c.seen++[aG],d⟩,0)
    else iJ (ez s f (d+1)) lo (eZ s aG).1.ks hi (eZ s aG).1.vs (dz c aG)
   else(dz c aG,10)
  else(dz c aG,(eZ s aG).2)
def iC.count(s:iC):Nat:=s.th.count true
structure ey(σ:Type) where
 ld:σ->Int->σ×Nd×Int
 sv:σ->Nd->σ×Int×Int
 dr:σ->Int->σ
structure Bp(σ:Type) where
 s:σ
 old:List Int
 pg:List Int
 key:Key
 e:Int
structure nS(σ:Type) where
 s:σ
 root:Int
 was:Int
 had:Bool
 e:Int
namespace ey
variable{σ:Type}(I:ey σ)
def tl(s:σ)(p:Int):σ×Nd×Int:=if(I.ld s p).2.2=0 then(if rB (I.ld s p).2.1=true then((I.ld s p).1,(I.ld s p).2.1,0)else((I.ld s p).1,l_,10))else((I.ld s p).1,l_,(I.ld s p).2.2)
def way(key:Key):Nat->σ->Int->List Step->σ×List Step×Int
 |0,s,aG,out=>if aG=0 then(s,out,0)else(s,[],10)
 |f+1,s,aG,out=>if aG=0 then(s,out,0)else
  if(I.tl s aG).2.2=0 then
   if(I.tl s aG).2.1.lf=true then((I.tl s aG).1,out++[⟨(I.tl s aG).2.1,aG,dm (I.tl s aG).2.1 key⟩],0)
   else way key f (I.tl s aG).1 ((I.tl s aG).2.1.vs.getD (dm (I.tl s aG).2.1 key) 0) (out++[⟨(I.tl s aG).2.1,aG,dm (I.tl s aG).2.1 key⟩])
  else((I.tl s aG).1,[],(I.tl s aG).2.2)
def j9(g:σ->Int->List Int->σ×List Int×Int):List Int->σ->List Int->σ×List Int×Int
 |[],s,a=>(s,a,0)
 |p::l,s,a=>if(g s p a).2.2=0 then j9 g l (g s p a).1 (g s p a).2.1 else((g s p a).1,[],(g s p a).2.2)
def fK:Nat->σ->Int->List Int->σ×List Int×Int
 |0,s,_,_=>(s,[],10)
 |f+1,s,aG,out=>if(I.tl s aG).2.2=0 then
  if(I.tl s aG).2.1.lf=true then((I.tl s aG).1,out++[aG],0)else j9 (fK f) (I.tl s aG).2.1.vs (I.tl s aG).1 (out++[aG])else((I.tl s aG).1,[],(I.tl s aG).2.2)
def pages(s:σ)(root:Int):σ×List Int×Int:=if root=0 then(s,[],0)else I.fK 40 s root []
def foldM(g:σ->Int->je->σ×je×Int)(most:Int):List Int->σ->je->σ×je×Int
 |[],s,a=>(s,a,0)
 |p::l,s,a=>if(a.length:Int)<most then(if(g s p a).2.2=0 then foldM g most l (g s p a).1 (g s p a).2.1 else((g s p a).1,[],(g s p a).2.2))else(s,a,0)
def eV(aM:Key)(most:Int):Nat->σ->Int->je->σ×je×Int
 |0,s,_,_=>(s,[],10)
 |f+1,s,aG,out=>if(I.tl s aG).2.2=0 then
  if(I.tl s aG).2.1.lf=true then((I.tl s aG).1,mC aM most ((I.tl s aG).2.1.ks.zip (I.tl s aG).2.1.vs) out,0)
  else foldM (eV aM most f) most ((I.tl s aG).2.1.vs.drop (dm (I.tl s aG).2.1 aM)) (I.tl s aG).1 out else((I.tl s aG).1,[],(I.tl s aG).2.2)
def scan(s:σ)(root:Int)(aM:Key)(most:Int):σ×je×Int:=if root=0\/most<1 then(s,[],0)else I.eV aM most 40 s root []
def iJ(g:σ->Int->Key->Option Key->Ck->σ×Ck×Int):Key->List Key->Option Key->List Int->σ->Ck->σ×Ck×Int
 |lo,k::ks,hi,v::vs,s,a=>if(g s v lo (some k) a).2.2=0 then iJ g k ks hi vs (g s v lo (some k) a).1 (g s v lo (some k) a).2.1 else g s v lo (some k) a
 |lo,[],hi,v::_,s,a=>g s v lo hi a
 |_,_,_,[],s,a=>(s,a,0)
def ez:Nat->Nat->σ->Int->Key->Option Key->Ck->σ×Ck×Int
 |0,_,s,_,_,_,c=>(s,c,10)
 |f+1,d,s,aG,lo,hi,c=>
  if aG∈c.seen\/aG<1 then(s,c,10)
  else if(I.tl s aG).2.2=0 then
   if tv d (I.tl s aG).2.1<=(I.tl s aG).2.1.ks.length/\xd (I.tl s aG).2.1 lo hi=true then
    if(I.tl s aG).2.1.lf=true then
     if 0<=c.dep/\c.dep≠d then((I.tl s aG).1,dz c aG,10)else((I.tl s aG).1,⟨c.seen++[aG],d⟩,0)
    else iJ (ez f (d+1)) lo (I.tl s aG).2.1.ks hi (I.tl s aG).2.1.vs (I.tl s aG).1 (dz c aG)
   else((I.tl s aG).1,dz c aG,10)
  else((I.tl s aG).1,dz c aG,(I.tl s aG).2.2)
def check(s:σ)(root:Int):σ×Int:=if root=0 then(s,0)else((I.ez 40 0 s root [] none ⟨[],-1⟩).1,(I.ez 40 0 s root [] none ⟨[],-1⟩).2.2)
def put(s:σ)(n:Nd):σ×List Int×Key×Int:=if n.ks.length<=4 then((I.sv s n).1,[(I.sv s n).2.1],[],(I.sv s n).2.2)else if(I.sv s (gv n)).2.2=0 then((I.sv (I.sv s (gv n)).1 (jX n)).1,[(I.sv s (gv n)).2.1,(I.sv (I.sv s (gv n)).1 (jX n)).2.1],qj n,(I.sv (I.sv s (gv n)).1 (jX n)).2.2)else((I.sv s (gv n)).1,[],[],(I.sv s (gv n)).2.2)
def qM(st:Step)(u:Bp σ):Bp σ:=if u.e=0 then⟨(I.put u.s (Ad st u.pg u.key)).1,u.old++[st.p],(I.put u.s (Ad st u.pg u.key)).2.1,(I.put u.s (Ad st u.pg u.key)).2.2.1,(I.put u.s (Ad st u.pg u.key)).2.2.2⟩else u
def kT(s:σ)(n:Nd)(old:List Int)(key:Key)(v:Int):Bp σ:=⟨(I.put s (iG n key v)).1,old,(I.put s (iG n key v)).2.1,(I.put s (iG n key v)).2.2.1,(I.put s (iG n key v)).2.2.2⟩
def gV(s:σ)(l:List Int):σ:=l.foldl I.dr s
def fW(root:Int)(was:Int)(had:Bool)(u:Bp σ):nS σ:=if u.e=0 then
 if u.pg.length=2 then
  if(I.sv u.s ⟨false,[u.key],u.pg⟩).2.2=0 then⟨I.gV (I.sv u.s ⟨false,[u.key],u.pg⟩).1 u.old,(I.sv u.s ⟨false,[u.key],u.pg⟩).2.1,was,had,0⟩
  else⟨(I.sv u.s ⟨false,[u.key],u.pg⟩).1,root,0,false,(I.sv u.s ⟨false,[u.key],u.pg⟩).2.2⟩
 else⟨I.gV u.s u.old,u.pg.getD 0 0,was,had,0⟩else⟨u.s,root,0,false,u.e⟩
def BM(s:σ)(l:List Step)(key:Key)(v:Int):Bp σ:=match l.getLast? with
 |none=>I.kT s tg [] key v
 |some x=>l.dropLast.foldr I.qM (I.kT s x.n [x.p] key v)
def mS(s:σ)(root:Int)(key:Key)(v:Int):nS σ:=if jY key v=true then
 if(I.way key 40 s root []).2.2=0 then I.fW root (nG (I.way key 40 s root []).2.1 key).1 (nG (I.way key 40 s root []).2.1 key).2 (I.BM (I.way key 40 s root []).1 (I.way key 40 s root []).2.1 key v)
 else⟨(I.way key 40 s root []).1,root,0,false,(I.way key 40 s root []).2.2⟩else⟨s,root,0,false,2⟩
end ey
end Go.cI
namespace Go.aW
open Go.Av
open Go.cI (Nd rB l_ ey)
structure Mp where
 n:Nat
 F:List Go.Av.Ext
 R:List Go.Av.Ext
 W:List Go.Av.Ext
structure qf(m:Mp):Prop where
 n:m.n<=65536
 F:Ok m.n m.F
 R:Ok m.n m.R
 W:Ok m.n m.W
 fr:∀s,mem m.F s->¬mem m.R s
 fw:∀s,mem m.F s->¬mem m.W s
def Mp.run(m:Mp)(k:Int):Nat:=(m.F.takeWhile fun e=>!decide (k<=(e.2:Int))).length
def Mp.take(m:Mp)(k:Int):Mp×(Int×Int)×Bool:=if 1<=k/\m.run k<m.F.length then
 ({m with F:=fy m.F ((m.F.getD (m.run k) (0,0)).1,k.toNat),R:=fS m.R ((m.F.getD (m.run k) (0,0)).1,k.toNat)},(((m.F.getD (m.run k) (0,0)).1:Int),k),true)else(m,(0,0),false)
def Mp.hold(m:Mp)(es:List (Int×Int)):Mp×Bool:=({m with F:=if d_ m.n m.F es=true then(es.map toE).foldl fy m.F else m.F},d_ m.n m.F es)
def Mp.yJ(m:Mp)(es:List (Int×Int)):Mp:={m with W:=if nI m.n m.F m.W es=true then(es.map toE).foldl fS m.W else m.W}
def Mp.aX(m:Mp):Mp:={m with F:=m.W.foldl fS m.F,R:=[],W:=[]}
def Mp.new(n:Nat):Mp:=⟨n,[(0,n)],[],[]⟩
structure Lg where
 kind:Int
 key:List UInt8
 sure:Bool
structure St where
 D:aU
 J:Jr
 jn:Int
 pn:Int
 root:Int
 sl:Mp
 rm:Mp
 ix:List Kn
 ord:Int
 lJ:List Lg
 sure:Bool
def St.free(s:St):St:={s with sl:=s.sl.aX,rm:=s.rm.aX,sure:=true,lJ:=s.lJ.map fun l=>{l with sure:=true}}
def St.aX(s:St)(root count:Int):St×Bool×Int:=({s with J:=(s.J.aX s.D [(0,eC root count)]).1,D:=(s.J.aX s.D [(0,eC root count)]).2.1,root:=if(s.J.aX s.D [(0,eC root count)]).2.2.1=true then root else s.root,sure:=if(s.J.aX s.D [(0,eC root count)]).2.2.1=true then false else s.sure},(s.J.aX s.D [(0,eC root count)]).2.2)
def St.wrote(s:St)(kind e:Int)(key:List UInt8):St:=if e=0 then St.free {s with lJ:=s.lJ++[⟨kind,key,false⟩]}else{s with lJ:=s.lJ++[⟨kind,key,false⟩]}
def nD(b:List UInt8):Nd×Int:=if u9 (gq (b,false) 1).1 (qU (gq (gq (b,false) 1).2 1).1 (gq (gq (b,false) 1).2 1).2).1 (Fs (gq (b,false) 1).1 (gq (gq (b,false) 1).2 1).1 (qU (gq (gq (b,false) 1).2 1).1 (gq (gq (b,false) 1).2 1).2).2).1 (Fs (gq (b,false) 1).1 (gq (gq (b,false) 1).2 1).1 (qU (gq (gq (b,false) 1).2 1).1 (gq (gq (b,false) 1).2 1).2).2).2=true then(⟨(gq (b,false) 1).1==1,(qU (gq (gq (b,false) 1).2 1).1 (gq (gq (b,false) 1).2 1).2).1,(Fs (gq (b,false) 1).1 (gq (gq (b,false) 1).2 1).1 (qU (gq (gq (b,false) 1).2 1).1 (gq (gq (b,false) 1).2 1).2).2).1⟩,0)else(l_,10)
structure Cs where
 s:St
 saved:List Int
 old:List Int
def Cs.dev(c:Cs)(D:aU):Cs:={c with s:={c.s with D:=D}}
def vq(jn p:Int):Int:=1+jn+p*8
def Cs.ld(c:Cs)(p:Int):Cs×Nd×Int:=if p<1\/c.s.pn<p then(c,l_,33)else if(fF c.s.D (vq c.s.jn (p-1))).2.2.2=0 then
 (if(nD (fF c.s.D (vq c.s.jn (p-1))).2.2.1).2=0 then(c.dev (fF c.s.D (vq c.s.jn (p-1))).1,nD (fF c.s.D (vq c.s.jn (p-1))).2.2.1)
 else(c.dev (fF c.s.D (vq c.s.jn (p-1))).1,l_,33))else(c.dev (fF c.s.D (vq c.s.jn (p-1))).1,l_,(fF c.s.D (vq c.s.jn (p-1))).2.2.2)
def Cs.sv(c:Cs)(n:Nd):Cs×Int×Int:=if rB n=true then
 (if(c.s.sl.take 1).2.2=true then
  ({c with s:={c.s with sl:=(c.s.sl.take 1).1,D:=(j_ c.s.D (vq c.s.jn (c.s.sl.take 1).2.1.1) 1 (h_ n.lf n.ks n.vs)).1},saved:=c.saved++[(c.s.sl.take 1).2.1.1]},(c.s.sl.take 1).2.1.1+1,(j_ c.s.D (vq c.s.jn (c.s.sl.take 1).2.1.1) 1 (h_ n.lf n.ks n.vs)).2)
 else(c,0,30))else(c,0,10)
def Cs.dr(c:Cs)(p:Int):Cs:={c with old:=c.old++[IntKind.i64.wrap (p-1)]}
def bA:ey Cs:=⟨Cs.ld,Cs.sv,Cs.dr⟩
def dF(m:Mp)(l:List Int):Mp:=l.foldl (fun m p=>m.yJ [(p,1)]) m
end Go.aW
namespace Go.Av
open Go.Proofs Go.aW
def w_(l:List Kn):List PC:=l.flatMap fun k=>[PC.str k.key,.int k.order,.int k.place,.sl (k.body.map gS)]
def bP(l:List Kn):Ob:=⟨159,4,(w_ l).map .p⟩
def Jq(l:List Lg):List PC:=l.flatMap fun x=>[PC.int x.kind,.str x.key,.bool x.sure]
def b_(l:List Lg):Ob:=⟨198,3,(Jq l).map .p⟩
def aC(b u:Nat)(D:aU):Ob:=⟨170,6,[.p (.int D.n),.p (.sl (D.bad.map PC.int)),.p (.int D.left),.view (b+1) 0 D.kept.length 64 none,.view (b+2) 0 D.now.length 64 none,.own u (D.q.map HU)]⟩
def bT(b u:Nat)(s:St):Ob:=⟨151,11,[.obj b 0,.p (.int s.jn),.p (.int s.pn),.obj (b+3) 0,.p (.int s.root),.obj (b+4) 0,.obj (b+5) 0,.view (u+8) 0 s.ix.length 4 none,.p (.int s.ord),.view (u+9) 0 s.lJ.length 3 none,.p (.bool s.sure)]⟩
def bZ(u:Nat)(m:Mp):Ob:=iM m.n u (u+1) (u+2) m.F m.R m.W
def bF(b u:Nat)(s:St):List (Nat×Ob):=[(b,aC b u s.D),(b+1,ax s.D.kept),(b+2,ax s.D.now),(b+3,eY b (u+1) s.J),(b+4,bZ (u+2) s.sl),(b+5,bZ (u+5) s.rm),(b+6,bT b u s),(u+2,cn s.sl.F),(u+3,cn s.sl.R),(u+4,cn s.sl.W),(u+5,cn s.rm.F),(u+6,cn s.rm.R),(u+7,cn s.rm.W),(u+8,bP s.ix),(u+9,b_ s.lJ)]
@[reducible]def eR(u:Nat):List (Nat×TypeId×Nat):=[(u,174,65),(u+1,364,2)]
def yT(b u:Nat)(c:Cs):Ob:=⟨278,3,[.obj (b+6) 0,.own (u+10) (c.saved.map PC.int),.own (u+11) (c.old.map PC.int)]⟩
def qL(b u:Nat)(c:Cs):List (Nat×Ob):=(b+7,yT b u c)::bF b u c.s
@[reducible]def jG(u:Nat):List (Nat×TypeId×Nat):=[(u,174,65),(u+1,364,2),(u+10,3,1),(u+11,3,1)]
theorem RL(b u c v:Nat)(s:St)(ρ:Nat->Nat)(h:∀i,i<7->ρ (b+i)=c+i)(h':∀j,j<10->ρ (u+j)=v+j):fI ρ (bF b u s)=bF c v s:=by
 have e0:ρ b=c:=h 0 (by omega);have e1:=h 1 (by omega);have e2:=h 2 (by omega);have e3:=h 3 (by omega);have e4:=h 4 (by omega);have e5:=h 5 (by omega);have e6:=h 6 (by omega);have f0:ρ u=v:=h' 0 (by omega);have f1:=h' 1 (by omega);have f2:=h' 2 (by omega);have f3:=h' 3 (by omega);have f4:=h' 4 (by omega);have f5:=h' 5 (by omega);have f6:=h' 6 (by omega);have f7:=h' 7 (by omega);have f8:=h' 8 (by omega);have f9:=h' 9 (by omega);simp[bF,fI,aC,ax,eY,bZ,bT,bP,b_,e0,e1,e2,e3,e4,e5,e6,f0,f1,f2,f3,f4,f5,f6,f7,f8,f9,Nat.add_assoc]
theorem RN(b u m:Nat)(s:St)(h:b+7<=m)(h':u+10<=m):∀p∈bF b u s,AV.e_.eE m p.2.xs=true:=by
 intro p hp;simp[bF]at hp;rcases hp with rfl|rfl|rfl|rfl|rfl|rfl|rfl|rfl|rfl|rfl|rfl|rfl|rfl|rfl|rfl<;>simp[aC,ax,bZ,bT,bP,b_]<;>omega
theorem RO(b u:Nat)(s:St):∀p∈bF b u s,(b<=p.1/\p.1<b+7)\/(u<=p.1/\p.1<u+10):=by
 intro p hp;simp[bF]at hp;rcases hp with rfl|rfl|rfl|rfl|rfl|rfl|rfl|rfl|rfl|rfl|rfl|rfl|rfl|rfl|rfl<;>simp<;>omega
theorem RP(b u c v:Nat)(s:Cs)(ρ:Nat->Nat)(h:∀i,i<8->ρ (b+i)=c+i)(h':∀j,j<12->ρ (u+j)=v+j):fI ρ (qL b u s)=qL c v s:=by
 have e6:=h 6 (by omega);have e7:=h 7 (by omega);have f1:=h' 10 (by omega);have f2:=h' 11 (by omega);rw[qL,fI,RL b u c v s.s ρ (fun i hi=>h i (by omega)) (fun i hi=>h' i (by omega))];simp[qL,yT,e6,e7,f1,f2]
theorem XS(b u:Nat)(c:Cs)(h:b+8<=u\/u+12<=b):((qL b u c).map (·.1)).Nodup:=by
 simp[qL,bF];omega
def jf:EJ 8 12 Cs:=⟨qL,fun b u s p hp=>by
 rcases List.mem_cons.1 hp with rfl|hp
 ·left;simp
 ·have:=RO b u s.s p hp;omega,XS,RP,fun b u s m p h h' hp=>by
 rcases List.mem_cons.1 hp with rfl|hp
 ·simp[yT];omega
 ·exact RN b u m s.s (by omega) (by omega) p hp⟩
end Go.Av
namespace Go.aW
open Go.Av
theorem qf.aX{m:Mp}(h:qf m):qf m.aX:=by
 have hp:=rI h.F (es:=m.W) (fun e he=>⟨h.W.nr.pos e he,h.W.top e he,fun s hs hm=>h.fw s hm ⟨e,he,hs⟩⟩) (T' h.W.nr) m.W.length (Nat.le_refl _);rw[List.take_length]at hp;exact⟨h.n,hp.1,oB,oB,fun s _ hm=>by simp[Mp.aX]at hm,fun s _ hm=>by simp[Mp.aX]at hm⟩
end Go.aW
namespace Go.Av
open Go.Proofs Go.aW
theorem sx(x:Lg)(L:List Lg):Jq (x::L)=PC.int x.kind::PC.str x.key::PC.bool x.sure::Jq L:=rfl
@[simp]theorem akM(L:List Lg):(Jq L).length=L.length*3:=by
 induction L with
 |nil=>rfl
 |cons x L ih=>rw[sx];simp[ih];omega
theorem Gq(c:Bool):∀{L:List Lg} {k:Nat} (h:k<L.length),(Jq L).take (k*3+2)++PC.bool c::(Jq L).drop (k*3+2+1)=Jq (L.set k {L[k]with sure:=c})
 |[],k,h=>by simp at h
 |x::L,0,_=>by simp[sx]
 |x::L,k+1,h=>by
  have ih:=Gq c (L:=L) (k:=k) (by simpa using h);rw[List.set_cons_succ,List.getElem_cons_succ,sx,sx,show(k+1)*3+2=k*3+2+1+1+1 by omega];simp only[List.take_succ_cons,List.drop_succ_cons,List.cons_append,ih]
def ku:List Lg->Nat->List Lg
 |x::L,k+1=>{x with sure:=true}::ku L k
 |L,_=>L
@[simp]theorem XO(L:List Lg):ku L 0=L:=by cases L<;>rfl
@[simp]theorem Ir:∀(L:List Lg) (k:Nat),(ku L k).length=L.length
 |[],_=>by simp[ku]
 |x::L,0=>by simp
 |x::L,k+1=>by simp[ku,Ir L k]
theorem xO:∀{L:List Lg} {k:Nat} (h:k<L.length),ku L (k+1)=(ku L k).set k {(ku L k)[k]'(by simpa using h)with sure:=true}
 |[],k,h=>by simp at h
 |x::L,0,_=>by simp[ku]
 |x::L,k+1,h=>by
  have ih:=xO (L:=L) (k:=k) (by simpa using h);show{x with sure:=true}::ku L (k+1)=({x with sure:=true}::ku L k).set (k+1) {({x with sure:=true}::ku L k)[k+1]'(by simpa using h)with sure:=true}
  rw[List.set_cons_succ,ih];rfl
theorem zy:∀(L:List Lg),ku L L.length=L.map fun l=>{l with sure:=true}
 |[]=>rfl
 |x::L=>by simp[ku,zy L]
theorem RG(s:St)(hs:qf s.sl)(hr:qf s.rm)(hl:s.lJ.length<=1000000000):aI Tryz.prog 101 [.obj 6 0] ⟨bF 0 7 s,eR 7,17⟩ (.agg true []) ⟨bF 0 17 s.free,eR 17,27⟩:=by
 have h1:=rS 4 9 10 11 17 s.sl.n (by constructor<;>omega) hs.n s.sl.F s.sl.R s.sl.W hs.F hs.W hs.fw;have h2:=rS 5 12 13 14 20 s.rm.n (by constructor<;>omega) hr.n s.rm.F s.rm.R s.rm.W hr.F hr.W hr.fw;refine QgQ (rs:=[]) [] [] [] Tryz.func101 rfl (by simp[Tryz.ntmps101]) ?_;simp[bF,aC,ax,bZ,bT,bP,b_];refine az h1 (by simp) (by simp[ay]) (by simp[ay]) rfl ?_;simp;refine az h2 (by simp) (by simp[ay]) (by simp[ay]) rfl ?_;simp;obtain⟨Bu,jJ⟩:∃m,s.sl.aX=m:=⟨_,rfl⟩;obtain⟨rm',sN⟩:∃m,s.rm.aX=m:=⟨_,rfl⟩;refine aN (fun k:Nat=>k<=s.lJ.length) (fun k=>[(0,.obj 6 0),(20,.p (.int s.lJ.length)),(21,.p (.int k))]) (fun k=>⟨[(0,aC 0 7 s.D),(1,ax s.D.kept),(2,ax s.D.now),(3,eY 0 8 s.J),(4,bZ 17 s.sl.aX),(5,bZ 20 s.rm.aX),(6,bT 0 7 {s with sure:=true}),(17,cn s.sl.aX.F),(18,cn []),(19,cn []),(20,cn s.rm.aX.F),(21,cn []),(22,cn []),(15,bP s.ix),(16,b_ (ku s.lJ k))],eR 7,23⟩) (fun k=>s.lJ.length-k) 0 (by simp) _ (AS.le_refl _ _) (aA (by simp[aC,ax,bZ,bT,bP,b_,Mp.aX])) ?_;intro k hk;by_cases ck:k<s.lJ.length
 ·have wk:IntKind.i64.wrap ((k:Int)+1)=((k+1:Nat):Int):=by rw[af (by omega) (by omega)];rfl
  have gy:=Gq true (L:=ku s.lJ k) (k:=k) (by simpa using ck);rw[<-xO ck]at gy;have Uv:=congrArg (List.map AV.p) gy;rw[List.map_append,List.map_take,List.map_cons,List.map_drop]at Uv;simp[ck,wk,aC,ax,bZ,bT,bP,b_];exact⟨by omega,k+1,by omega,by omega,aA (by simp[Uv])⟩
 ·obtain rfl:k=s.lJ.length:=by omega
  simp[-aD,aC,ax,bZ,bT,bP,b_,Tryz.results101];exact⟨[(17,7),(18,8),(19,17),(20,18),(21,19),(22,20),(23,21),(24,22),(25,15),(26,16)],by simp[St.free,Mp.aX,zy]⟩
end Go.Av
namespace Go.aW
open Go.Av
structure KOk(k:Kn):Prop where
 key:k.key.length<=1000
 order:0<=k.order/\k.order<=1152921504606846976
 place:0<=k.place/\k.place<=1000000000
 bl:k.body.length<=8
 bo:∀e∈k.body,0<=e.1/\e.1<=65536/\1<=e.2/\e.2<=65536
structure JB(t:Nat)(jn:Int)(J:Jr):Prop where
 ok:Bo J
 ho:∀p∈J.cq,-9223372036854775808<=p.1/\p.1<=9223372036854775807
 yt:J.cq.length<=t
 dS:J.at'<=1000000+t/\J.base<=1000000+t
 aM:J.aM=1/\J.n=jn
structure ic(t:Nat)(s:St):Prop where
 D:eu (t*t) s.D
 J:JB t s.jn s.J
 jn:5<=s.jn/\s.jn<=4096
 pn:30<=s.pn/\s.pn<=4096
 sz:cG s.jn s.pn+16<=s.D.kept.length
 sl:qf s.sl
 rm:qf s.rm
 T6:(s.sl.n:Int)=s.pn
 J0:(s.rm.n:Int)=s.D.kept.length-cG s.jn s.pn
 lJ:s.lJ.length<=t
 ixl:s.ix.length<=1000000
 ix:∀k∈s.ix,KOk k
 srt:s.ix.Pairwise fun a b=>Op.bytesLess a.key b.key=true
 root:-9223372036854775808<=s.root/\s.root<=9223372036854775807
 ord:0<=s.ord/\s.ord<=1152921504606846976
theorem sq8(t:Nat):(t+8)*(t+8)=t*t+16*t+64:=by rw[Nat.add_mul,Nat.mul_add,Nat.mul_add];omega
theorem MF{a b:Nat}(h:a<=b):a*a<=b*b:=Nat.mul_le_mul h h
theorem PO{t:Nat}(h:t<=30000):t*t<=900000000:=Nat.le_trans (MF h) (by decide)
theorem cS(D:aU):D.flush.1.kept.length=D.kept.length/\D.flush.1.now=D.now:=by
 unfold aU.flush;split
 ·unfold aU.next;split<;>simp[aU.settle,oL]
 ·unfold aU.next;split<;>simp
theorem dN(D:aU)(a:Int)(l:List cU):(D.write a l).1.kept=D.kept:=by
 unfold aU.write;split
 ·split
  ·rw[(Ce _ _ _).1];unfold aU.next;split<;>rfl
  ·unfold aU.next;split<;>rfl
 ·rfl
theorem kN:∀(l:List u_) (D:aU),(gC l D).1.kept=D.kept
 |[],_=>rfl
 |p::l,D=>by
  unfold gC;split
  ·rw[kN l,dN]
  ·rw[dN]
theorem A8{b:Nat}{D:aU}(h:eu b D):D.flush.2=0->eu 0 D.flush.1:=by
 unfold aU.flush;split
 ·intro _;exact h.next.settle
 ·rename_i hn;intro h0;exact absurd h0 hn
theorem ML{b:Nat}{D:aU}(h:eu b D)(J:Jr):eu (b+J.cq.length+2) (J.settle D).2.1:=by
 have f1:=h.flush;have key:eu (b+J.cq.length+2) (aK (iN J) D).1:=by
  unfold iN;simp only[aK];by_cases c1:D.flush.2=0
  ·rw[if_pos c1];have q1:=A8 h c1;by_cases c2:(gC J.cq D.flush.1).2=0
   ·rw[if_pos c2];have q2:=q1.home J.cq;have f3:=q2.flush;by_cases c3:(gC J.cq D.flush.1).1.flush.2=0
    ·rw[if_pos c3];have q3:=A8 q2 c3;by_cases c4:(J.tell (gC J.cq D.flush.1).1.flush.1).2=0
     ·rw[if_pos c4];have q4:=q3.write (J.aM+J.kW.number%2) [dn J.kW];have f5:=q4.flush;by_cases c5:(J.tell (gC J.cq D.flush.1).1.flush.1).1.flush.2=0
      ·rw[if_pos c5];exact f5.up (by first|(simp;done)|(simp;omega))
      ·rw[if_neg c5];exact f5.up (by first|(simp;done)|(simp;omega))
     ·rw[if_neg c4];exact(q3.write _ _).up (by first|(simp;done)|(simp;omega))
    ·rw[if_neg c3];exact f3.up (by omega)
   ·rw[if_neg c2];exact(q1.home _).up (by omega)
  ·rw[if_neg c1];exact f1.up (by omega)
 unfold Jr.settle;split
 ·exact h.up (by omega)
 ·split<;>exact key
theorem CN(J:Jr)(D:aU):(J.settle D).2.1.kept.length=D.kept.length:=by
 have key:(aK (iN J) D).1.kept.length=D.kept.length:=by
  unfold iN;simp only[aK];split
  ·split
   ·split
    ·split
     ·split
      ·rw[(cS _).1,Jr.tell,dN,(cS _).1,kN,(cS _).1]
      ·rw[(cS _).1,Jr.tell,dN,(cS _).1,kN,(cS _).1]
     ·rw[Jr.tell,dN,(cS _).1,kN,(cS _).1]
    ·rw[(cS _).1,kN,(cS _).1]
   ·rw[kN,(cS _).1]
  ·rw[(cS _).1]
 unfold Jr.settle;split
 ·rfl
 ·split<;>exact key
theorem JB.up{t t':Nat}{jn:Int}{J:Jr}(h:JB t jn J)(ht:t<=t'):JB t' jn J:=⟨h.ok,h.ho,Nat.le_trans h.yt ht,by have:=h.dS;omega,h.aM⟩
theorem JB.settle{t:Nat}{jn:Int}{J:Jr}(h:JB t jn J)(D:aU):JB t jn (J.settle D).1:=by
 obtain⟨k1,k2,k3,k4⟩:=Go.Av.m9 J D;have hn:(J.settle D).1.n=J.n:=by unfold Jr.settle;split;rfl;split<;>rfl
 have hh:=h.dS;refine⟨zm h.ok D,fun p hp=>h.ho p ?_,Nat.le_trans k4 h.yt,⟨by rw[k3];omega,?_⟩,⟨k2.trans h.aM.1,hn.trans h.aM.2⟩⟩
 ·unfold Jr.settle at hp;split at hp
  ·exact hp
  ·split at hp
   ·simp[Jr.settled]at hp
   ·exact hp
 ·unfold Jr.settle;split
  ·simp only;omega
  ·split
   ·simp only[Jr.settled];omega
   ·simp only;omega
theorem ic.up{t t':Nat}{s:St}(h:ic t s)(ht:t<=t'):ic t' s:={h with D:=h.D.up (MF ht),J:=h.J.up ht,lJ:=Nat.le_trans h.lJ ht}
theorem ic.settled{t:Nat}{s:St}(h:ic t s):ic (t+8) {s with J:=(s.J.settle s.D).1,D:=(s.J.settle s.D).2.1}:=by
 have hk:=CN s.J s.D;exact{h with D:=(ML h.D s.J).up (by have:=h.J.yt;rw[sq8];omega),J:=(h.J.settle s.D).up (by omega),sz:=by simp only[hk];exact h.sz,J0:=by simp only[hk];exact h.J0,lJ:=Nat.le_trans h.lJ (by omega)}
theorem ic.ahR{t:Nat}{s:St}(h:ic t s):ic t s.free:={h with sl:=h.sl.aX,rm:=h.rm.aX,lJ:=by simp[St.free];exact h.lJ}
end Go.aW
namespace Go.Av
open Go.Proofs Go.aW
end Go.Av
namespace Go.aW
open Go.Av
theorem N5(aM:Int)(L:List cU)(a:Int)(D:aU):(aK (fP aM L a) D).1.kept.length=D.kept.length:=by
 unfold fP;simp only[aK];split
 ·split
  ·split
   ·rw[dN,(cS _).1,dN]
   ·rw[dN,(cS _).1,dN]
  ·rw[(cS _).1,dN]
 ·rw[dN]
theorem akt{b:Nat}{D:aU}(h:eu b D)(aM:Int)(L:List cU)(a:Int):eu (b+L.length+2) (aK (fP aM L a) D).1:=by
 unfold fP;simp only[aK];have w1:=h.write (aM+a) (L.take (L.length-1)++[Go.Av.dK []]);have l1:(L.take (L.length-1)++[Go.Av.dK []]).length<=L.length+1:=by first|(simp;done)|(simp;omega)
 split
 ·have f1:=w1.flush;split
  ·rename_i c;have q:=(A8 w1 c).write (aM+(a+(L.length-1:Nat))) [L.getD (L.length-1) []];split
   ·exact q.up (by first|(simp;done)|(simp;omega))
   ·exact q.up (by first|(simp;done)|(simp;omega))
  ·exact f1.up (by omega)
 ·exact w1.up (by omega)
theorem GQ{b:Nat}{D:aU}(h:eu b D)(J:Jr)(aH:List u_)(a:Int):eu (b+aH.length+4) (J.Cl D aH a).2.1/\(J.Cl D aH a).2.1.kept.length=D.kept.length/\((J.Cl D aH a).1=J\/(J.Cl D aH a).1=J.done aH a):=by
 have q:=akt h J.aM (iO J.next aH) a;have hk:=N5 J.aM (iO J.next aH) a D;rw[rZ]at q;unfold Jr.Cl;split
 ·exact⟨q.flush.up (by omega),by rw[(cS _).1,hk],.inr rfl⟩
 ·exact⟨q.up (by omega),hk,.inl rfl⟩
theorem GR(J:Jr)(size c:Int)(h:J.at'<=c)(h2:2<=c):(ko J size).1<=c:=by
 unfold ko;split
 ·exact h
 ·split
  ·exact h
  ·split<;>exact h2
theorem JB.done{t:Nat}{jn:Int}{J:Jr}(h:JB t jn J)(ht:t<=30000)(b:cU)(a:Int)(ha:0<=a/\a<=1000000+t):JB (t+8) jn (J.done [(0,b)] a):=by
 have hh:=h.dS;have hl:=h.yt;have hb:=h.ok.base;refine⟨⟨h.ok.aM,h.ok.n,by simp[Jr.done];omega,by simp[Jr.done];omega,?_⟩,fun p hp=>?_,by simp[Jr.done];omega,⟨by simp[Jr.done];omega,?_⟩,h.aM⟩
 ·simp only[Jr.done];split<;>omega
 ·simp only[Jr.done,List.mem_append,List.mem_singleton]at hp;rcases hp with hp|rfl
  ·exact h.ho p hp
  ·simp
 ·simp only[Jr.done];split<;>omega
theorem Jg{t:Nat}{jn:Int}{J:Jr}{D:aU}(hD:eu (t*t) D)(h:JB t jn J)(ht:t<=30000)(b:cU):eu ((t+8)*(t+8)) (J.aX D [(0,b)]).2.1/\(J.aX D [(0,b)]).2.1.kept.length=D.kept.length/\JB (t+8) jn (J.aX D [(0,b)]).1:=by
 have dS:=h.dS;have yt:=h.yt;have hJ:=h.ok.at';have e8:=sq8 t;have hq:=ML hD J;have hk:=CN J D;obtain⟨k1,k2,k3,k4⟩:=Go.Av.m9 J D;have hS:=h.settle D;unfold Jr.aX;split
 ·split
  ·obtain⟨c1,c2,c3⟩:=GQ hD J [(0,b)] (ko J (([(0,b)]:List u_).length+2)).1;refine⟨c1.up (by simp;omega),c2,?_⟩;rcases c3 with c3|c3
   ·rw[c3];exact h.up (by omega)
   ·rw[c3];exact h.done ht b _ ⟨(AO _ (by omega)).1,GR _ _ _ (by omega) (by omega)⟩
  ·split
   ·obtain⟨c1,c2,c3⟩:=GQ hq (J.settle D).1 [(0,b)] (ko (J.settle D).1 (([(0,b)]:List u_).length+2)).1;refine⟨c1.up (by simp;omega),c2.trans hk,?_⟩;rcases c3 with c3|c3
    ·rw[c3];exact hS.up (by omega)
    ·rw[c3];exact hS.done ht b _ ⟨(AO _ (by rw[k3];omega)).1,GR _ _ _ (by rw[k3];omega) (by omega)⟩
   ·exact⟨hq.up (by omega),hk,hS.up (by omega)⟩
 ·exact⟨hD.up (by omega),rfl,h.up (by omega)⟩
theorem ic.aX{t:Nat}{s:St}(h:ic t s)(ht:t<=30000)(root count:Int)(hr:-9223372036854775808<=root/\root<=9223372036854775807):ic (t+8) (s.aX root count).1:=by
 obtain⟨h1,h2,h3⟩:=Jg h.D h.J ht (eC root count);have hroot:=h.root;exact{h with D:=h1,J:=h3,sz:=by simp only[St.aX,h2];exact h.sz,J0:=by simp only[St.aX,h2];exact h.J0,lJ:=Nat.le_trans h.lJ (by omega),root:=by simp only[St.aX];split<;>assumption}
theorem ic.wrote{t:Nat}{s:St}(h:ic t s)(kind e:Int)(key:List UInt8):ic (t+8) (s.wrote kind e key):=by
 have h':ic (t+8) {s with lJ:=s.lJ++[⟨kind,key,false⟩]}:={h.up (Nat.le_add_right t 8)with lJ:=by have:=h.lJ;simp;omega};unfold St.wrote;split
 ·exact h'.ahR
 ·exact h'
end Go.aW
namespace Go.Av
open Go.Proofs Go.aW
theorem HT(t:Nat)(s:St)(h:ic t s)(ht:t<=30000)(root count:Int):aI Tryz.prog 234 [.obj 6 0,.p (.int root),.p (.int count)] ⟨bF 0 7 s,eR 7,17⟩ (.agg true [.p (.bool (s.aX root count).2.1),.p (.int (s.aX root count).2.2)]) ⟨bF 0 17 (s.aX root count).1,eR 17,27⟩:=by
 have hc:=Ia s.D (t*t) h.D s.J h.J.ok (by have:=PO ht;omega) (by have:=h.J.dS;omega) h.J.ho (by have:=h.J.yt;omega) [(0,eC root count)] (by simp);have hs:=xB root count;unfold St.aX;obtain⟨R,hR⟩:∃R,s.J.aX s.D [(0,eC root count)]=R:=⟨_,rfl⟩;obtain⟨J',D',b,e⟩:=R;rw[hR]at hc⊢;simp only at hc⊢;refine QgQ (rs:=[_,_]) [] [(1,[(3,.r 1),(10,.w [1])])] [(1,6)] Tryz.func234 rfl (by simp[Tryz.ntmps234]) ?_;simp[bF,aC,ax,bZ,bT,bP,b_];refine bD hs ?_;simp;refine ak [0,1,2,7,3,8] hc (by simp) (by simp) (by simp[ay,ax]) (by simp[ay]) ?_;cases b with
 |true=>
  simp[-aD,ax,Tryz.results234];exact⟨[(19,9),(20,10),(21,11),(22,12),(23,13),(24,14),(25,15),(26,16)],by simp⟩
 |false=>
  simp[-aD,ax,Tryz.results234];exact⟨[(19,9),(20,10),(21,11),(22,12),(23,13),(24,14),(25,15),(26,16)],by simp⟩
theorem JY(t:Nat)(s:St)(h:ic t s)(ht:t<=30000)(kind e:Int)(key:List UInt8)(hk:key.length<=1000000):aI Tryz.prog 153 [.obj 6 0,.p (.int kind),.p (.int e),.p (.str key)] ⟨bF 0 7 s,eR 7,17⟩ (.agg true []) ⟨bF 0 17 (s.wrote kind e key),eR 17,27⟩:=by
 have hl:=h.lJ;have hf:=RG {s with lJ:=s.lJ++[⟨kind,key,false⟩]} h.sl h.rm (by simp;omega);obtain⟨Z,hZ⟩:∃Z,s.wrote kind e key=Z:=⟨_,rfl⟩;rw[hZ];refine QgQ (rs:=[]) [] [] [] Tryz.func153 rfl (by simp[Tryz.ntmps153]) ?_;have lZ:List.take (s.lJ.length*3) (List.map AV.p (Jq s.lJ))=List.map AV.p (Jq s.lJ):=List.take_of_length_le (by simp);simp[bF,aC,ax,bZ,bT,bP,b_,lZ];refine⟨by omega,by omega,?_⟩;by_cases c:e=0
 ·subst c;simp;refine ak [0,1,2,3,4,5,6,7,8,9,10,11,12,13,14,15,17] hf (by simp) (by simp) (by simp[ay,bF,aC,ax,bZ,bT,bP,b_,Jq]) (by simp[ay]) ?_;rw[St.wrote,if_pos rfl]at hZ;rw[<-hZ];simp[-aD,bF,aC,ax,bZ,bT,bP,b_,Tryz.results153];exact⟨[(17,18),(18,19),(19,20),(20,21),(21,22),(22,23),(23,24),(24,25),(25,26),(26,27)],by simp⟩
 ·rw[St.wrote,if_neg c]at hZ;rw[<-hZ];have c':(e==0)=false:=by simpa using c
  simp[-aD,c',Tryz.results153];exact⟨[(17,7),(18,8),(19,9),(20,10),(21,11),(22,12),(23,13),(24,14),(25,15),(26,17)],by simp[Jq]⟩
end Go.Av
