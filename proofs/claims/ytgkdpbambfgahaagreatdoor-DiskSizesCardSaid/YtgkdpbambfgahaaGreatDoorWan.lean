/- DiskSizes, part 14: an abstract interpreter over a program's form, with the proof that it is sound; it holds for any program that the model takes. -/
import Derived.Test.YtgkdpbambfgahaaGreatDoorWam
import Derived.RangeFuncBox
import Derived.RangeFuncLeaves
import Derived.RangeFuncNested
import Derived.RangeFuncBound
import Derived.RangeFuncCalls
set_option linter.all false
set_option maxRecDepth 100000
set_option maxHeartbeats 64000000
namespace Go.Av
open Go.RowKit
def AK(o:Oper):Bool:=match o.op with
 | .defer _=>false
 |_=>true
theorem H6{o:Oper}(h:AK o=true):∀c,o.op≠ .defer c:=by
 intro c e;simp[AK,e]at h
section
variable{P:Program}
theorem uI{ops:Array Oper}{Q:Exit->Act->World->Prop}{l0 n:Nat}(hQ:¬LetsOut Q):∀(l:List Oper),l.all AK=true->∀a w,wpList P ops Q l a w->wpListIn (Fence.wide.inRound l0) n P ops Q l a w
 |[],_,a,w,h=>h
 |o::l,hd,a,w,h=>by
  simp only[List.all_cons,Bool.and_eq_true]at hd;have ih:∀a w,wpList P ops Q l a w->wpListIn (Fence.wide.inRound l0) n P ops Q l a w:=uI hQ l hd.2;unfold wpListIn;unfold wpList at h;split
  ·rename_i hw;rw[if_pos hw]at h;refine⟨fun _ _=>trivial,?_⟩;rw[Oper.semAt_eq _ _ _ (H6 hd.1)];have h:o.wp P a w (wpList P ops Q l) Q:=h.resolve_right fun k=>hQ k.2;unfold Oper.wp at h;generalize(execOp a.eval o).run P w=r at h;unfold Oper.upon at h;unfold Oper.uponIn;split at h
   ·exact ih _ _ h
   ·exact ih _ _ h
   ·exact ih _ _ h
   ·refine⟨(fun h=>by simp[Fence.wide]at h),CallsIn.inRound l0 (callsIn_wide.2 (h.mono ?_))⟩;rintro e w' k;cases e with
    |returned v=>exact ih _ _ k
    |panicked ch=>exact k
    |outgrown=>exact k
   ·refine⟨(fun h=>by simp[Fence.wide]at h),?_⟩;intro c cs _;obtain⟨v,w',r,s⟩:=h c cs;exact⟨v,w',ih _ _ r,stepsIn_wide.2 s⟩
   ·exact h
   ·exact h.elim
  ·rename_i hw;rw[if_neg hw]at h;exact⟨fun _ _=>trivial,ih _ _ h⟩
def tK:Code->Bool
 | .skip=>true
 | .region _ ops d=>!d&&ops.toList.all AK
 | .seq x y=>tK x&&tK y
 | .block _ x=>tK x
 | .exit _=>true
 |_=>false
variable{fr:Fr}
theorem pE{cx:Cx}{l0 n:Nat}:∀(c:Code) (st:AS) (Q:Exit->AS->Prop),tK c=true->codeOk cx.cls cx.ot fr.n c=true->(∀st,¬Q .outgrown st)->aw P cx c st Q->∀a w,gO fr st a w->c.wpIn (Fence.wide.inRound l0) n P (Post fr Q) a w
 | .skip,st,Q,_,_,_,h,a,w,hs=>wpIn_skip ⟨st,h,hs⟩
 | .exit id,st,Q,_,_,_,h,a,w,hs=>wpIn_exit ⟨st,h,hs⟩
 | .region id ops d,st,Q,hc,hk,hQ,h,a,w,hs=>by
  simp only[codeOk,Bool.and_eq_true,Bool.or_eq_true,Bool.not_eq_true']at hk;simp only[tK,Bool.and_eq_true,Bool.not_eq_true']at hc;obtain⟨rfl,hc⟩:=hc;have hQ':¬LetsOut (Post fr Q):=fun⟨a,w,st,q,_⟩=>hQ st q;refine wpIn_region_list (uI hQ' _ hc a w ?_);simp only[aw]at h;unfold El at h;split at h
  ·obtain⟨ns,h⟩:=h;exact tL (Q:=Post fr Q) (fun st a w h1 h2=>⟨st,h1,h2⟩) ns _ st (by simpa using hk.1) h a w hs
  ·exact oI (Q:=Post fr Q) (fun st a w h1 h2=>⟨st,h1,h2⟩) _ st (by simpa using hk.1) h a w hs
 | .seq x y,st,Q,hc,hk,hQ,h,a,w,hs=>by
  simp only[codeOk,Bool.and_eq_true]at hk;simp only[tK,Bool.and_eq_true]at hc;simp only[aw]at h;refine wpIn_seq (wpIn_mono (pE x st _ hc.1 hk.1 (by intro st k;exact hQ st k) h a w hs) ?_);rintro e a' w' ⟨st',hq,hs'⟩;cases e with
  |normal=>exact pE y st' Q hc.2 hk.2 hQ hq a' w' hs'
  |_=>exact⟨st',hq,hs'⟩
 | .block id x,st,Q,hc,hk,hQ,h,a,w,hs=>by
  simp only[codeOk]at hk;simp only[tK]at hc;simp only[aw]at h;refine wpIn_block (wpIn_mono (pE x st _ hc hk (by intro st k;exact hQ st k) h a w hs) ?_);rintro e a' w' ⟨st',hq,hs'⟩;cases e with
  |exit j=>
   simp only[Exit.inBlock];simp only at hq;split
   ·rename_i e;rw[if_pos e]at hq;exact⟨st',hq,hs'⟩
   ·rename_i e;rw[if_neg e]at hq;exact⟨st',hq,hs'⟩
  |_=>exact⟨st',hq,hs'⟩
 | .cond ..,_,_,hc,_,_,_,_,_,_=>by simp[tK]at hc
 | .loop ..,_,_,hc,_,_,_,_,_,_=>by simp[tK]at hc
 | .ret,_,_,hc,_,_,_,_,_,_=>by simp[tK]at hc
 | .goto ..,_,_,hc,_,_,_,_,_,_=>by simp[tK]at hc
 | .label ..,_,_,hc,_,_,_,_,_,_=>by simp[tK]at hc
 | .rangeFunc ..,_,_,hc,_,_,_,_,_,_=>by simp[tK]at hc
theorem aR.grown{w0:World}{M0:Mem}{F:Nat->Prop}{tb:Tb}{g:G}{W W':World}{row:Option Nat}(h:aR w0 M0 F tb g W)(hg:W.grownBy W' row)(hr:∀r,row=some r->w0.heap.size<=r/\∃o:Obj,W.heap[r]?=some o/\o.isCells=false):aR w0 M0 F tb g W':=by
 have hcell:∀{k:Nat} {o:Obj},W.heap[k]?=some o->o.isCells=true->W'.heap[k]?=some o:=fun hk hc=>(grownBy_keeps_cells hg (fun r e=>(hr r e).2) hk hc).trans hk;refine⟨⟨fun b o v e=>?_,h.holds.g⟩,⟨hg.os.trans h.keep.os,hg.tape.trans h.keep.tape,hg.output.trans h.keep.output,Nat.le_trans h.keep.size hg.size,fun k hk hf=>?_⟩,h.old,h.BD,fun id o e=>?_,fun id el sz e=>?_,h.fG,h.gJ,h.eX,h.fresh⟩
 ·have hc:=h.holds b o v e;obtain⟨ob,h1,h2⟩:=cells_of_cell hc;have:=hcell h1 h2;unfold World.cell? at hc⊢;simp only at h1 this hc⊢;rw[h1]at hc;rw[this];exact hc
 ·rw[<-h.keep.block k hk hf];refine hg.block k (Nat.lt_of_lt_of_le hk h.keep.size) ?_;intro e;have:=(hr k e.symm).1;omega
 ·obtain⟨b,c,h1,hr',h0⟩:=h.boxes id o e;refine⟨b,c,h1,fun hc=>?_,h0⟩;obtain⟨cur,h2,h3,⟨tt,fz,h4,fo⟩,h5⟩:=hr' hc;exact⟨cur,h2,h3,⟨tt,fz,hcell h4 rfl,fo⟩,h5⟩
 ·obtain⟨v,h1,h2⟩:=h.rows id el sz e;refine⟨v,h1,h2.imp (fun h=>h) ?_⟩;rintro⟨b,n,cap,cur,h3,h4,⟨tt,fz,h5,fo⟩,h6⟩;exact⟨b,n,cap,cur,h3,h4,⟨tt,fz,hcell h5 rfl,fo⟩,h6⟩
end
end Go.Av
namespace Go.Av
open Go.Proofs Go.aW Go.RowKit
theorem pG{P:Program}{fr:Fr}{cx:Cx}{x y:Code}{st:AS}{a:Act}{w:World}{n:Nat}{Q:Exit->Act->World->Prop}(S:List (Nat×AV))(T:Tb)(hm:P.follows .mixedOrders=true)(hfr:pW fr cx.eW)(hk:codeOk cx.cls cx.ot fr.n x=true)(hs:gO fr st a w)(h:aw P cx x st (pX cx (fun _:Unit=>True) (fun _=>S) (fun _=>T) (fun _=>0) 1 (fun _ _=>False)))(hy:∀a w,gO fr (Ig S T) a w->y.wpIn Fence.wide n P Q a w):(Code.seq x y).wpIn Fence.wide n P Q a w:=by
 refine wpIn_seq (wpIn_mono (wpIn_wide.2 (fX hm hfr x _ _ hk h _ w hs)) ?_);rintro e a1 w1 ⟨st,hq,hs⟩;cases e with
 |normal=>
  obtain⟨_,_,_,rn,k1,k2⟩:=hq;exact hy _ _ (jt rn k1 k2 fr a1 w1 hfr hs)
 |_=>exact hq.elim
theorem L6(b:List UInt8):aB Tryz.prog 223 [cy b,.int 64] (.fn (.func 304) [(cy b).ref,(PC.int 64).ref]):=by
 refine QpQ (ys:=[_]) [] [] [] Tryz.func223 rfl (by simp[Tryz.ntmps223]) ?_;simp[Tryz.results223]
def xC(b:List UInt8)(k:Nat):List UInt8:=(b.drop (64*k)).take 64
def qw(c:List UInt8):cU:=c++List.replicate (64-c.length) 0
def jh(b:List UInt8)(pre:List Nat):Tb:=⟨[(0,⟨93,1,[.own (pre.length+1) ((pre.map fun k=>cy (qw (xC b k))))]⟩)],[(pre.length+1,22,1)],pre.length+2⟩
def pH:Value->Nat->Value
 | .slice (some a) len _,k=>Tryz.piece a.block a.off len k
 |_,_=> .slice none 0 0
abbrev bvs(l:List UInt8):List Value:=l.map fun b=>Value.int .u8 b.toNat
theorem tO(l:List UInt8):cellsOf (bvs l)=bvs l:=q_ (M:=fun _ _=>none) (by
 intro v hv;obtain⟨x,_,rfl⟩:=List.mem_map.1 hv;rfl)
theorem Er{M:Mem}{u:Value}{b:List UInt8}(h:gB M u (cy b)):(∃sa c,u= .slice sa 0 c/\b=[])\/∃bb off cap,u= .slice (some ⟨bb,off,none⟩) b.length cap/\b.length<=cap/\cap<=maxLen/\At M bb off (bvs b):=by
 generalize hy:cy b=y at h;cases h with
 |dg=>
  left;injection hy with hy;have:b=[]:=by simpa[ah]using hy
  exact⟨_,_,rfl,this⟩
 |p_ ad=>
  left;injection hy with hy;have:b=[]:=by simpa[ah]using hy
  exact⟨_,_,rfl,this⟩
 |@sl bb off n cap sz us xs hn hc hm hsz hu h1 dS h=>
  injection hy with hy;subst hy;right;obtain rfl:=iX b h;have:n=b.length:=by simpa using hn.symm
  subst this;rw[tO]at dS;exact⟨bb,off,cap,rfl,hc,hm,dS⟩
 |_=>cases hy
theorem Ih{M:Mem}{u:Value}{b:List UInt8}(h:gB M u (cy b))(k:Nat):gB M (pH u k) (cy (xC b k)):=by
 rcases Er h with⟨sa,c,rfl,rfl⟩|⟨bb,off,cap,rfl,hc,hm,dS⟩
 ·have e:xC [] k=[]:=by simp[xC]
  rw[e];cases sa with
  |none=>exact .dg
  |some ad=>
   show gB M (.slice (some ⟨ad.block,ad.off+64*k,none⟩) (Nat.min 64 (0-64*k)) (Nat.min 64 (0-64*k))) _;have e0:Nat.min 64 (0-64*k)=0:=by rw[Nat.zero_sub];rfl
   rw[e0];exact .p_ _
 ·have e0:(xC b k).length=Nat.min 64 (b.length-64*k):=by simp[xC,Nat.min_def]
  show gB M (.slice (some ⟨bb,off+64*k,none⟩) (Nat.min 64 (b.length-64*k)) (Nat.min 64 (b.length-64*k))) _;refine .sl (us:=bvs (xC b k)) (sz:=1) (by simp[e0]) (Nat.le_refl _) ?_ (by omega) ?_ ?_ ?_ (jq M _)
  ·have:Nat.min 64 (b.length-64*k)<=64:=Nat.min_le_left _ _;exact Nat.le_trans this (by decide)
  ·intro v hv;obtain⟨x,_,rfl⟩:=List.mem_map.1 hv;rfl
  ·intro v hv;rw[tO]at hv;obtain⟨x,_,rfl⟩:=List.mem_map.1 hv;rfl
  ·rw[tO];intro j v e;rw[Nat.add_assoc];refine dS _ _ ?_;simp only[bvs,xC,List.getElem?_map,List.getElem?_take,List.getElem?_drop]at e⊢;split at e
   ·exact e
   ·simp at e
theorem L7(c:List UInt8)(h:c.length<=64):List.map AV.p (List.flatMap gu (List.take (c.length.min 64) (ah c)))++List.drop (c.length.min 64) (bB 0 (List.replicate 64 (AV.p (PC.sc (Value.int .u8 0)))))=(ah (qw c)).map AV.p:=by
 have e:c.length.min 64=c.length:=Nat.min_eq_left h;have e2:∀l,List.flatMap gu (ah l)=ah l:=fun l=>by
  induction l with
  |nil=>rfl
  |cons x l ih=>simpa[ah]using ih
 rw[e,List.take_of_length_le (by simp[ah]),e2,eN (Nat.zero_le _),List.drop_replicate];simp[qw,ah]
theorem Ii{tb aO:Tb}{id:Nat}{m:Option Nat}{xs:List AV}{c:List UInt8}(hl:lk id tb.bx=some ⟨5,1,xs⟩)(hx:xs=(ah c).map AV.p)(hc:c.length=64)(ht:aO=⟨del id tb.bx,tb.rw,tb.nx+1⟩):wZ tb aO [.view id 0 64 1 m] [cy c]:=by
 subst hx;refine⟨_,⟨_,hl,rfl,rfl,by omega,by simp[ah,hc],?_,by simp[ah,hc],fun y h=>cg _ y h,fun y h=>fR _ y h,ht⟩,rfl⟩;rw[mU,fQ];exact List.take_of_length_le (by simp[ah,hc])
theorem Gj{w0:World}{M0:Mem}{F:Nat->Prop}{tb ts:Tb}{g:G}{W W1:World}(hW:aR w0 M0 F tb g W)(hb:∀i o,lk i ts.bx=some o->lk i tb.bx=some o)(hr:∀i r,lk i ts.rw=some r->lk i tb.rw=some r)(hk:qn (Es g ts) W W1):∀(k:Nat) (o:Obj),W.heap[k]?=some o->o.isCells=false->W1.heap[k]?=some o:=by
 intro k o hk' ho;refine(hk.block k (o3 hk') ?_).trans hk';rintro(⟨id,ob,c,e1,e2,hp⟩|⟨id,r,v,e1,e2,e3⟩)
 ·obtain⟨cur,_,_,⟨tt,fz,f4,_⟩,_⟩:=(hW.boxes _ _ (hb _ _ e1)).real e2 hp;rw[f4]at hk';cases hk';cases ho
 ·obtain⟨v',f1,f2⟩:=hW.rows _ r.1 r.2 (hr _ _ e1);rw[e2]at f1;injection f1 with f1;subst f1;rcases f2 with⟨ad,n,rfl⟩|⟨b',n,cap,cur,rfl,f3,⟨tt,fz,f4,_⟩,f5,f6,_⟩
  ·rw[f_]at e3;cases e3
  ·rw[cZ f6]at e3;injection e3 with e3;subst e3;rw[f4]at hk';cases hk';cases ho
theorem Ij(k:Nat):∀(b:List UInt8),b.length<=k->secs k b=(List.range ((b.length+63)/64)).map fun k=>qw (xC b k):=by
 induction k with
 |zero=>intro b h;have:b=[]:=List.eq_nil_of_length_eq_zero (by omega);subst this;rfl
 |succ k ih=>
  intro b h;unfold secs;split
  ·rename_i h;subst h;rfl
  ·rename_i hb;have:0<b.length:=List.length_pos_iff.2 hb;rw[ih _ (by simp;omega)];have e:(b.length+63)/64=((b.drop 64).length+63)/64+1:=by simp;omega
   rw[e,List.range_succ_eq_map,List.map_cons,List.map_map];congr 1
   ·simp only[qw,xC,Nat.mul_zero,List.drop_zero,List.length_take];congr 2;omega
   ·apply List.map_congr_left;intro j _;simp only[Function.comp,xC,List.drop_drop];congr 3;omega
theorem L8(b:List UInt8):bn b=(List.range ((b.length+63)/64)).map fun k=>qw (xC b k):=Ij _ b (Nat.le_refl _)
theorem Cq(b:List UInt8)(hb:b.length<=1000000000):aI Tryz.prog 144 [.p (cy b)] ⟨[],[],0⟩ (.p (.sl ((bn b).map cy))) ⟨[],[],(b.length+63)/64+2⟩:=by
 refine⟨⟨Tryz.f144,Tryz.func144,by kernel_rfl,by kernel_rfl⟩,fun g w vs F hw hvs=>(callsIn_wide (n:=3)).1 ?_⟩;refine callsIn_of_wp_marks Tryz.func144 rfl trivial ?_ rfl;have hlen:=hvs.length
 let fr:Fr:=⟨w,g.M,F,g,18,[]⟩
 have hfr:pW fr 0:=fun i hi=>hw.fresh i (by omega);have mJ:gO fr (lM [.p (cy b)] ⟨[],[],0⟩) {tmps:=vs.toArray++Array.replicate (Tryz.f144.ntmps-vs.toArray.size) undef,defers:=[]} w:=by
  refine⟨g,G.le_refl g,hw,?_,?_,rfl⟩
  ·intro t;have:=kX (g:=g) [.p (cy b)] vs 0 hvs t;simp only[Nat.sub_zero,Nat.zero_le,if_true]at this;show aZ _ _ (iD [.p (cy b)] 0 t);by_cases ht:t<vs.length
   ·have e:(vs.toArray++Array.replicate (Tryz.f144.ntmps-vs.toArray.size) undef).getD t undef=(vs[t]?).getD undef:=by
     simp[Array.getElem?_append,ht]
    rw[e];exact this
   ·rw[m_ [.p (cy b)] 0 t (by simp at hlen⊢;omega)];exact .any _
  ·simp[fr,hlen,Tryz.ntmps144]
 refine pG (cx:=⟨[],[],[],0,[]⟩) [(0,.p (cy b))] ⟨[],[],0⟩ mixed hfr (by kernel_rfl) mJ ?_ ?_
 ·simp;exact⟨[],by simp,by simp⟩
 clear mJ;intro a w1 mJ;refine pG (cx:=⟨[],[],[],0,[]⟩) [(0,.p (cy b)),(3,.obj 0 0)] ⟨[(0,⟨93,1,[.p .nil]⟩)],[],1⟩ mixed hfr (by kernel_rfl) mJ ?_ ?_
 ·simp;exact⟨[(0,0)],by simp,by simp⟩
 clear mJ;intro a w1 mJ;refine wpIn_seq ?_;refine pG (cx:=⟨[],[],[],0,[]⟩) [(0,.p (cy b)),(3,.obj 0 0),(7,.p (.fn (.func 304) [(cy b).ref,(PC.int 64).ref]))] ⟨[(0,⟨93,1,[.p .nil]⟩)],[],1⟩ mixed hfr (by kernel_rfl) mJ ?_ ?_
 ·have hC:=L6 b;simp;refine ai hC (by simp) ?_;simp;exact⟨[(0,0)],by simp,by simp⟩
 clear mJ;intro a w1 mJ;refine wpIn_block ?_;have mJ:gO fr (Ig [(0,.p (cy b)),(3,.obj 0 0),(7,.p (.fn (.func 304) [(cy b).ref,(PC.int 64).ref]))] (jh b [])) a w1:=(iu (eW:=0) (st:=Ig [(0,.p (cy b)),(3,.obj 0 0),(7,.p (.fn (.func 304) [(cy b).ref,(PC.int 64).ref]))] ⟨[(0,⟨93,1,[.p .nil]⟩)],[],1⟩) 0 0 22 1 ⟨93,1,[.p .nil]⟩ [] rfl (.inr ⟨rfl,rfl⟩)) fr a w1 hfr mJ;obtain⟨g2,h0,h1,h2,h3,h4⟩:=mJ;have hv7:aZ g2 (a.tmps.getD 7 undef) (.p (.fn (.func 304) [(cy b).ref,(PC.int 64).ref])):=h2 7;have hv3:aZ g2 (a.tmps.getD 3 undef) (.obj 0 0):=h2 3;have Xk:aR w g.M F (jh b []) g2 w1:=h1;obtain⟨Bs,os,Bn,on,u,hu7,Q1,FJ,hBn⟩:∃Bs os Bn on u,a.tmps.getD 7 undef= .func (.func 304) #[] #[.pointer (some ⟨Bs,os,none⟩),.pointer (some ⟨Bn,on,none⟩)]/\g2.M Bs os=some u/\gB g2.M u (cy b)/\g2.M Bn on=some (.int .i64 64):=by
  generalize a.tmps.getD 7 undef=u7 at hv7;cases hv7 with
  |p h=>
   cases h with
   |fn hs=>
    cases hs with
    |cons r1 hs=>
     cases hs with
     |cons r2 hs=>
      cases hs;cases r1 with
      |ref at1 FJ=>
       cases r2 with
       |ref at2 Hq=>
        cases Hq with
        |sc=>
         refine⟨_,_,_,_,_,rfl,at1 0 _ ?_,FJ,at2 0 _ rfl⟩;rcases Er FJ with⟨sa,c,rfl,_⟩|⟨bb,off,cap,rfl,_⟩<;>rfl
 have hseq:SeqStopsK Fence.wide (3-1) Tryz.prog 304 #[.pointer (some ⟨Bs,os,none⟩),.pointer (some ⟨Bn,on,none⟩)] (fun k:Nat=>#[pH u k]) (fun A B=>(∀v,A.cell? ⟨Bs,os,none⟩=some v->B.cell? ⟨Bs,os,none⟩=some v)/\∀v,A.cell? ⟨Bn,on,none⟩=some v->B.cell? ⟨Bn,on,none⟩=some v) (fun xs=>xs=List.range ((b.length+63)/64)) (fun _=>True) ((b.length+63)/64) w1:=by
  intro l J Jx W hW hJA apL hY hJ0;have c1:=(hW.cell (p:=⟨Bs,os,none⟩) (Xk.holds.lt Q1)).trans (Xk.holds _ _ _ Q1);have c2:=(hW.cell (p:=⟨Bn,on,none⟩) (Xk.holds.lt hBn)).trans (Xk.holds _ _ _ hBn);have hz:∀(sa:Option Addr) c,u= .slice sa 0 c->b=[]->CallsIn Fence.wide (3-1) Tryz.prog 304 (#[.func (.yield l) #[] #[]]++#[.pointer (some ⟨Bs,os,none⟩),.pointer (some ⟨Bn,on,none⟩)]) W fun e W'=>(∃v,e= .returned v)/\((∃xs,(xs=List.range ((b.length+63)/64))/\J xs W')\/(∃pre,True/\Jx pre W')):=by
   intro sa c e hb0;rw[e]at c1;refine(Tryz.AR (3-1) l Bs os Bn on c sa J W c1 hJ0).mono ?_;rintro e W' ⟨he,hj⟩;exact⟨he,.inl ⟨[],by simp[hb0],hj⟩⟩
  rcases Er FJ with⟨sa,c,e,hb0⟩|⟨bb,off,cap,e,hc,_⟩
  ·exact hz _ _ e hb0
  ·subst e;refine(Tryz.Cr (3-1) (by omega) l Bs os Bn on bb off b.length cap hb hc J Jx _ (fun A B h=>h) ?_ W hJA c1 c2 hJ0).mono ?_
   ·intro pre k W1 hj hl;exact hY pre k W1 hj hl
   ·rintro e W' ⟨he,hj|⟨pre,hj⟩⟩
    ·exact⟨he,.inl hj⟩
    ·exact⟨he,.inr ⟨pre,trivial,hj⟩⟩
 have hKr:∀{A B:World} {row:Option Nat},A.grownBy B row->(∀r,row=some r->∃o:Obj,A.heap[r]?=some o/\o.isCells=false)->(∀v,A.cell? ⟨Bs,os,none⟩=some v->B.cell? ⟨Bs,os,none⟩=some v)/\∀v,A.cell? ⟨Bn,on,none⟩=some v->B.cell? ⟨Bn,on,none⟩=some v:=fun hg hr=>⟨fun v h=>cell_kept h hg hr,fun v h=>cell_kept h hg hr⟩;refine wpIn_rangeFunc_ownG (F:=Fence.wide) rfl (by omega) (gf:=304) (lb:=#[.pointer (some ⟨Bs,os,none⟩),.pointer (some ⟨Bn,on,none⟩)]) hu7 trivial (enters_of Tryz.func304 (by kernel_rfl) rfl) hseq (fun h k=>⟨fun v e=>k.1 v (h.1 v e),fun v e=>k.2 v (h.2 v e)⟩) (fun W l o o' hl ho hc _=>hKr (grownBy_putObj' W l o') (fun r e=>by cases e;exact⟨o,ho,hc⟩)) (Below.refl _ _) (fun _=>rfl) (fun pre W=>∃g',g2.le g'/\aR w g.M F (jh b pre) g' W) (fun _ _ _=>False) (fun s A B row ⟨g',hle,h⟩ hg hr=>⟨g',hle,aR.grown h hg (fun r e=>⟨Nat.le_trans Xk.keep.size (hr r e).1,(hr r e).2⟩)⟩) (fun _ _ _ _ _ hs _ _=>hs) ⟨g2,G.le_refl _,Xk⟩ (fun x=>{tmps:=(a.tmps.setIfInBounds 8 (pH u x)).setIfInBounds 4 (pH u x),defers:=[]}) ?assign ?body ?done ?stop
 case stop=>
  rintro D c pre W _ _ h _;exact h.elim
 case assign=>
  intro l x W K hK;have hsz:a.tmps.size=18:=h3;refine wpIn_region_list ?_;simp[wpListIn,Region.wanted,Oper.wpIn,Oper.semAt,execOp,Oper.uponIn,Exit.then,Act.put,Act.eval,Oper.about,hsz];exact hK
 case body=>
  rintro l pre x W ⟨g',hle,hW⟩ hlt;have hsz:a.tmps.size=18:=h3;have hN:pre.length<20000000:=by omega
  have wu:(pre.map fun k=>cy (qw (xC b k))).length<20000000:=by simpa using hN
  have hx:(xC b x).length<=64:=by simp[xC];omega
  let fr':Fr:=⟨W,g'.M,Es g' (jh b pre),g',18,[]⟩
  have am3:pW fr' (pre.length+2):=fun i hi=>hW.fresh i hi;have hP:aR W g'.M (Es g' (jh b pre)) (jh b pre) g' W:=hW.part (by simp[ay,jh]) (by simp[ay,jh]) rfl;have hpr:gB g'.M (pH u x) (cy (xC b x)):=Ih (FJ.mono hle.M) x;generalize pH u x=up at hpr;have mJ:gO fr' (Ig [(3,.obj 0 0),(4,.p (cy (xC b x)))] (jh b pre)) {tmps:=(a.tmps.setIfInBounds 8 up).setIfInBounds 4 up,defers:=[]} W:=by
   refine⟨g',G.le_refl _,hP,?_,by simp[fr',hsz],rfl⟩;intro t;show aZ g' _ (r_ _ t);simp only[r_,rF];split
   ·rename_i e;subst e;have:=hv3.mono hle;simpa[Array.getElem?_setIfInBounds]using this
   ·split
    ·rename_i e;subst e;simpa[Array.getElem?_setIfInBounds,hsz]using aZ.p hpr
    ·exact .any _
  refine wpIn_mono (pE (fr:=fr') (cx:=⟨[],[],[],pre.length+2,[]⟩) _ _ (pX ⟨[],[],[],pre.length+2,[]⟩ (fun _:Unit=>True) (fun _=>[]) (fun _=>jh b (pre++[x])) (fun _=>0) 1 (fun _ _=>False)) (by kernel_rfl) (by kernel_rfl) (fun _ h=>h) ?_ _ W mJ) ?_
  ·generalize VF:xC b x=c at hx;have ahg:=L7 c hx;have hpl:(qw c).length=64:=by simp[qw];omega
   have Jp:∀y∈pre.map (fun k=>cy (qw (xC b k))),y.width=1:=by
    intro y hy;obtain⟨k,_,rfl⟩:=List.mem_map.1 hy;rfl
   simp only[jh,List.map_append,List.map_cons,List.map_nil,VF,List.length_append,List.length_cons,List.length_nil];have hyl:(pre.map (fun k=>cy (qw (xC b k)))).length=pre.length:=by simp
   generalize pre.map (fun k=>cy (qw (xC b k)))=ys at wu Jp hyl;generalize pre.length=q at hN hyl;simp;refine⟨by decide,fun y h=>cg _ y h,fun y h=>fR _ y h,?_⟩;refine Ar [cy (qw c)] ⟨[(0,⟨93,1,[.own (q+1) ys]⟩)],[(q+1,22,1)],q+4⟩ (by simp[bq]) (Ii (by simp[lk]) ahg hpl (by simp[del])) (by simp) (by simp) ?_;simp;refine⟨Jp,by omega,by omega,?_⟩;exact aE [(q+2,q+4)] (by simp)
  ·rintro e a1 W1 ⟨st,hq,hs⟩;cases e with
   |normal=>
    obtain⟨_,_,_,rn,k1,k2⟩:=hq;obtain⟨g3,j0,j1,j2,j3,j4⟩:=jt rn k1 k2 fr' a1 W1 am3 hs;have hB:=hW.back (ts:=jh b pre) (by simp[ay,jh]) (by simp[ay,jh]) j0 j1;have hF:=Gj hW (fun _ _ h=>h) (fun _ _ h=>h) j1.keep;refine⟨⟨j1.keep.size,fun k o _ hk ho=>hF k o hk ho⟩,⟨fun v e=>?_,fun v e=>?_⟩,g3,hle.trans j0,?_⟩
    ·rw[hW.holds _ _ _ (hle.M _ _ _ Q1)]at e;rw[<-e];exact hB.holds _ _ _ (j0.M _ _ _ (hle.M _ _ _ Q1))
    ·rw[hW.holds _ _ _ (hle.M _ _ _ hBn)]at e;rw[<-e];exact hB.holds _ _ _ (j0.M _ _ _ (hle.M _ _ _ hBn))
    ·simpa[Tb.merge,jh,cu,del]using hB
   |_=>exact hq.elim
 case done=>
  rintro D ys W hD rfl ⟨g',hle,hW⟩ hK;have hsz:a.tmps.size=18:=h3;have hds:a.defers=[]:=h4;have Kb:(List.range ((b.length+63)/64)).length=(b.length+63)/64:=List.length_range;have Dy:=L8 b
  let fr7:Fr:=⟨W,g'.M,Es g' (jh b (List.range ((b.length+63)/64))),g',18,[{target:= .collected D,args:=#[]}]⟩
  have am4:pW fr7 ((b.length+63)/64+2):=fun i hi=>hW.fresh i (by rw[<-Kb]at hi;exact hi);have hP:aR W g'.M (Es g' (jh b (List.range ((b.length+63)/64)))) (jh b (List.range ((b.length+63)/64))) g' W:=hW.part (by simp[ay,jh]) (by simp[ay,jh]) rfl;have ahh:gO fr7 (Ig [(3,.obj 0 0)] (jh b (List.range ((b.length+63)/64)))) {a with defers:={target:= .collected D,args:=#[]}::a.defers} W:=by
   refine⟨g',G.le_refl _,hP,?_,hsz,by simp[fr7,hds]⟩;intro t;show aZ g' _ (r_ _ t);simp only[r_,rF];split
   ·rename_i e;subst e;exact hv3.mono hle
   ·exact .any _
  simp only[Exit.inBlock,Exit.then];refine pG (cx:=⟨[],[],[],(b.length+63)/64+2,[]⟩) [(2,.own ((b.length+63)/64+1) ((bn b).map cy))] (jh b (List.range ((b.length+63)/64))) mixed am4 (by kernel_rfl) ahh ?_ ?_
  ·have am5:(bn b).map cy=(List.range ((b.length+63)/64)).map fun k=>cy (qw (xC b k)):=by rw[Dy,List.map_map];rfl
   rw[am5];simp only[jh,Kb];generalize(List.range ((b.length+63)/64)).map (fun k=>cy (qw (xC b k)))=ys;generalize(b.length+63)/64=q;simp;exact⟨[],by simp,by simp⟩
  ·intro a3 W3 hs3;refine wpIn_ret ?_;obtain⟨g3,j0,j1,j2,j3,j4⟩:=hs3;have hB:=hW.back (ts:=jh b (List.range ((b.length+63)/64))) (by simp[ay,jh]) (by simp[ay,jh]) j0 j1;have Xl:=Gj hW (ts:=jh b (List.range ((b.length+63)/64))) (fun _ _ h=>h) (fun _ _ h=>h) j1.keep D _ hK rfl;have hg4:=grownBy_putObj' W3 D (.deferred none);have Jl:=hB.grown hg4 (fun r e=>by cases e;exact⟨Nat.le_trans Xk.keep.size hD,_,Xl,rfl⟩);have we:aZ g3 (a3.tmps.getD 2 undef) (.own ((b.length+63)/64+1) ((bn b).map cy)):=j2 2;show LeavesInM Fence.wide 3 Tryz.prog Tryz.f144 a3.tmps _ a3.defers .returning W3;rw[j4];refine⟨by simp,.inl ⟨D,_,rfl,run_takeDeferred Xl,?_⟩⟩;refine⟨_,results_tmp rfl _ _ _,_,g3,rfl,G.le.trans h0 (hle.trans j0),?_,?_⟩
   ·refine Jl.sub (fun i o e=>by simp[lk]at e) (fun i r e=>by simp[lk]at e) ?_;simp[Tb.merge,jh]
   ·generalize a3.tmps.getD 2 undef=v2 at we⊢;cases we with
    |own e hr=>exact .p hr
theorem qt(b:List UInt8)(hb:b.length<=1000000000):aB Tryz.prog 144 [cy b] (.sl ((bn b).map cy)):=bN (xs:=[cy b]) (Cq b hb) ⟨_,rfl,.inl rfl⟩
theorem L9(k:Nat)(b:List UInt8):∀s∈secs k b,s.length=64:=by
 induction k generalizing b with
 |zero=>intro s h;simp[secs]at h
 |succ k ih=>
  intro s h;unfold secs at h;split at h
  ·simp at h
  ·rcases List.mem_cons.1 h with rfl|h
   ·simp;omega
   ·exact ih _ s h
theorem kR(b:List UInt8):∀s∈bn b,s.length=64:=L9 _ b
theorem L_(k:Nat)(b:List UInt8)(h:b.length<=k):(secs k b).length=(b.length+63)/64:=by
 induction k generalizing b with
 |zero=>have:b=[]:=List.eq_nil_of_length_eq_zero (by omega);subst this;rfl
 |succ k ih=>
  unfold secs;split
  ·rename_i h;subst h;rfl
  ·rename_i hb;have:0<b.length:=List.length_pos_iff.2 hb;rw[List.length_cons,ih _ (by simp;omega)];simp;omega
theorem eI(b:List UInt8):(bn b).length=(b.length+63)/64:=L_ _ b (Nat.le_refl _)
end Go.Av
namespace Go.aW
def j_(D:aU)(a kind:Int)(b:List UInt8):aU×Int:=if(gZ kind b).2=0 then D.write a (bn (gZ kind b).1)else(D,(gZ kind b).2)
def fF(D:aU)(a:Int):aU×Nat×List UInt8×Int:=if(D.read a 8).2.2=0 then((D.read a 8).1,kS (D.read a 8).2.1.flatten)else((D.read a 8).1,0,[],(D.read a 8).2.2)
end Go.aW
namespace Go.Av
open Go.Proofs Go.aW
theorem zN(kind:Int)(b:List UInt8):(gZ kind b).1.length<=512:=by
 unfold gZ;split
 ·simp
 ·split
  ·simp
  ·rw[fZ];simp;omega
theorem I5(D:aU)(b:Nat)(hD:eu b D)(a kind:Int)(ha:-9223372036854775808<=a/\a<=9223372036854775807)(hk:-9223372036854775808<=kind/\kind<=9223372036854775807)(hb:b<=100000000000)(L:List (List UInt8))(hL:L.flatten.length<=1000000000)(hL2:L.length<=1000000000):aI Tryz.prog 433 [.obj 0 0,.p (.int a),.p (.int kind),.p (.sl (L.map cy))] ⟨cC 3 D,cp 3,4⟩ (.p (.int (j_ D a kind L.flatten).2)) ⟨cC 4 (j_ D a kind L.flatten).1,cp 4,5⟩:=by
 have hP:=Q4 kind hk L hL hL2;have hlen:=zN kind L.flatten;refine QgQ (rs:=[_]) [] [] [] Tryz.func433 rfl (by simp[Tryz.ntmps433]) ?_;unfold j_;generalize gZ kind L.flatten=p at*;obtain⟨x,e⟩:=p;simp only at*;simp;refine ai hP (by simp) ?_;by_cases c:e=0
 ·subst c;have hc:=eI x;rw[if_pos rfl];simp;refine ai (qt x (by omega)) (by simp) ?_;simp;refine az (pe D b hD a ha (bn x) (by omega) (by omega)) (by simp) (by simp[ay]) (by simp[ay]) rfl ?_;simp[Tryz.results433];exact⟨[],by simp[ax]⟩
 ·have c':(e !=0)=true:=by simpa using c
  rw[if_neg c];simp[c',Tryz.results433];exact⟨[(4,3)],by simp[ax]⟩
theorem BB(L:List cU)(h:∀s∈L,s.length=64):L.flatten.length=L.length*64:=by
 induction L with
 |nil=>rfl
 |cons s L ih=>rw[List.flatten_cons,List.length_append,ih (fun s hs=>h s (by simp[hs])),h s (by simp),List.length_cons];omega
theorem yS(D:aU)(b:Nat)(hD:eu b D)(a n:Int):(∀s∈(D.read a n).2.1,s.length=64)/\(D.read a n).2.1.length<=65536:=by
 unfold aU.read;have:=hD.top;have:=hD.len;split
 ·split
  ·exact⟨fun s hs=>hD.now s (List.mem_of_mem_drop (List.mem_of_mem_take hs)),by simp;omega⟩
  ·simp
 ·simp
theorem J3(D:aU)(b:Nat)(hD:eu b D)(a:Int)(ha:-9223372036854775808<=a/\a<=9223372036854775807):aI Tryz.prog 430 [.obj 0 0,.p (.int a)] ⟨cC 3 D,cp 3,4⟩ (.agg true [.p (.int (fF D a).2.1),.p (cy (fF D a).2.2.1),.p (.int (fF D a).2.2.2)]) ⟨cC 4 (fF D a).1,cp 4,5⟩:=by
 have hR:=xL D b hD a 8 ha;obtain⟨r1,r2⟩:=yS D b hD a 8;refine QgQ (rs:=[_,_,_]) [] [] [] Tryz.func430 rfl (by simp[Tryz.ntmps430]) ?_;unfold fF;generalize D.read a 8=p at*;obtain⟨E,l,e⟩:=p;simp only at*;have hf:=BB l r1;simp;refine az hR (by simp) (by simp[ay]) (by simp[ay]) rfl ?_;by_cases c:e=0
 ·subst c;rw[if_pos rfl];simp;refine ai (AW l (by omega) (by omega)) (by simp) ?_;simp;refine ai (Il l.flatten (by omega)) (by simp) ?_;simp[Tryz.results430];exact⟨[],by simp[ax]⟩
 ·have c':(e !=0)=true:=by simpa using c
  rw[if_neg c];simp[c',Tryz.results430,ah];exact⟨[],by simp[ax]⟩
end Go.Av
namespace Go.aW
def uG(m:Int):UInt8:=UInt8.ofNat (m%256).toNat
def aF(n:Int)(size:Nat):List UInt8:=(List.range size).map fun j=>uG (n/2^(8*(size-1-j)))
theorem aY(n:Int)(k:Nat):(aF n k).length=k:=by simp[aF]
end Go.aW
namespace Go.Av
open Go.Proofs Go.aW
theorem Ma{eW:Nat}{st:AS}(t:Nat)(el:TypeId)(s:Nat)(h:isNone (st.sl t)):st.le eW ⟨rF st.sl t (.view st.tb.nx 0 0 s none),st.tb.aT ⟨el,s,[]⟩⟩:=by
 rintro fr a w hf ⟨g,h0,h1,h2,h3,h4⟩;obtain⟨ad,hv,s_⟩:∃ad,a.tmps.getD t undef= .slice ad 0 0/\(ad=none\/∃a',ad=some a'):=by
  have:=h2 t;generalize a.tmps.getD t undef=v at this⊢;unfold isNone at h;split at h
  ·rename_i e;rw[e]at this;cases this with
   |full hr=>cases hr with
    |dg=>exact⟨none,rfl,.inl rfl⟩
    |p_ a=>exact⟨_,rfl,.inr ⟨_,rfl⟩⟩
    |sl hn _ _ _ _ _ _ hs=>have:=hs.length;simp at this;rw[this]at hn;simp at hn;subst hn;exact⟨_,rfl,.inr ⟨_,rfl⟩⟩
  ·rename_i e;rw[e]at this;have:=bf this;cases this;exact⟨none,rfl,.inl rfl⟩
  ·exact h.elim
 refine⟨_,h0.trans (h1.kF 0 0),h1.AU el s,fun u=>?_,h3,h4⟩;simp only[rF];split
 ·rename_i e;subst e;rw[hv];have:=aZ.view (g:=g.di st.tb.nx 0 0) (id:=st.tb.nx) (b:=0) (c:=0) (o:=0) (n:=0) (s:=s) (a:=ad) (m:=none) (by simp[G.di]) (by omega) (by unfold maxLen;omega) (.void rfl s_) (by simp);simpa using this
 ·exact(h2 u).mono (h1.kF 0 0)
theorem jM(m:Int):IntKind.u8.wrap m=((uG m).toNat:Int):=by
 have e1:IntKind.u8.bits=8:=rfl;have e2:IntKind.u8.signed=false:=rfl;unfold IntKind.wrap uG;simp only[e1,e2,Bool.false_and,Bool.false_eq_true,if_false];rw[UInt8.toNat_ofNat'];omega
theorem xE(n:Int)(size k:Nat)(h:k<size):(aF n size).take (k+1)=(aF n size).take k++[uG (n/2^(8*(size-1-k)))]:=by
 rw[List.take_succ_eq_append_getElem (by rw[aY];exact h)];congr 2;simp[aF]
theorem iI(nx:Nat)(pre tl:List UInt8)(arg:AV)(bx:List (Nat×Ob))(id:Nat)(ha:arg= .view id 0 pre.length 1 none/\bx=[(id,ew (pre++tl))]\/arg= .p .nil/\pre=[]/\bx=[])(hp:pre.length<=1000000)(n:Int)(size:Nat)(hs:size<=8):aI Tryz.prog 256 [arg,.p (.int n),.p (.int size)] ⟨bx,[],nx⟩ (.view nx 0 (pre.length+size) 1 none) ⟨[(nx,ew (pre++aF n size))],[],nx+1⟩:=by
 refine QgQ (rs:=[_]) [] [] [] Tryz.func256 rfl (by simp[Tryz.ntmps256]) ?_;have w0:IntKind.i64.wrap ((size:Int)-1)=(size:Int)-1:=af (by omega) (by omega);rcases ha with⟨rfl,rfl⟩|⟨rfl,rfl,rfl⟩
 ·simp[w0];refine aN (fun k:Nat=>k<=size) (fun k=>[(0,.view nx 0 (pre.length+k) 1 none),(1,.p (.int n)),(7,.p (.int ((size:Int)-1-k)))]) (fun k=>⟨[(nx,ew (pre++(aF n size).take k))],[],nx+1⟩) (fun k=>size-k) 0 (by simp) _ (AS.le_refl _ _) (aE [(nx,id)] (by simp[ah])) ?_;intro k hk;by_cases ck:k<size
  ·have c1:(k:Int)<=(size:Int)-1:=by omega
   have w1:IntKind.i64.wrap ((size:Int)-1-k-1)=(size:Int)-1-((k+1:Nat):Int):=by rw[af (by omega) (by omega)];omega
   have w2:IntKind.i64.wrap (8*((size:Int)-1-k))=8*((size:Int)-1-k):=af (by omega) (by omega);have w3:IntKind.u8.wrap (n.fdiv (2^min (8*((size:Int)-1-k)).toNat IntKind.i64.bits))=((uG (n/2^(8*(size-1-k)))).toNat:Int):=by
    have e:min (8*((size:Int)-1-k)).toNat IntKind.i64.bits=8*(size-1-k):=by
     have e2:IntKind.i64.bits=64:=rfl;rw[e2];omega
    rw[e,Int.fdiv_eq_ediv_of_nonneg _ (Int.le_of_lt (Int.pow_pos (by omega))),jM]
   have hts:=xE n size k ck;have hl:=aY n size;have Xm:List.take (pre.length+k) (List.map AV.p (ah (pre++List.take k (aF n size))))=List.map AV.p (ah (pre++List.take k (aF n size))):=List.take_of_length_le (by simp[ah];omega);simp[c1,w1,w2,w3,Xm];refine⟨by omega,by omega,by omega,by omega,k+1,by omega,by omega,aE [(nx,nx+1)] ?_⟩;rw[hts];simp[ah,Nat.add_assoc]
  ·obtain rfl:k=size:=by omega
   have c1:¬(k:Int)<=(k:Int)-1:=by omega
   have hl:=aY n k;have ht:(aF n k).take k=aF n k:=List.take_of_length_le (by omega);simp[c1,Tryz.results256,ht];exact⟨[],by simp⟩
 ·simp[w0];refine aN (fun k:Nat=>k<=size) (fun k=>[(0,.view nx 0 (([]:List UInt8).length+k) 1 none),(1,.p (.int n)),(7,.p (.int ((size:Int)-1-k)))]) (fun k=>⟨[(nx,ew ([]++(aF n size).take k))],[],nx+1⟩) (fun k=>size-k) 0 (by simp) _ (Ma 0 5 1 (by simp[isNone])) (aA (by simp[ah])) ?_;generalize hpre:([]:List UInt8)=pre at*;intro k hk;by_cases ck:k<size
  ·have c1:(k:Int)<=(size:Int)-1:=by omega
   have w1:IntKind.i64.wrap ((size:Int)-1-k-1)=(size:Int)-1-((k+1:Nat):Int):=by rw[af (by omega) (by omega)];omega
   have w2:IntKind.i64.wrap (8*((size:Int)-1-k))=8*((size:Int)-1-k):=af (by omega) (by omega);have w3:IntKind.u8.wrap (n.fdiv (2^min (8*((size:Int)-1-k)).toNat IntKind.i64.bits))=((uG (n/2^(8*(size-1-k)))).toNat:Int):=by
    have e:min (8*((size:Int)-1-k)).toNat IntKind.i64.bits=8*(size-1-k):=by
     have e2:IntKind.i64.bits=64:=rfl;rw[e2];omega
    rw[e,Int.fdiv_eq_ediv_of_nonneg _ (Int.le_of_lt (Int.pow_pos (by omega))),jM]
   have hts:=xE n size k ck;have hl:=aY n size;have Xm:List.take (pre.length+k) (List.map AV.p (ah (pre++List.take k (aF n size))))=List.map AV.p (ah (pre++List.take k (aF n size))):=List.take_of_length_le (by simp[ah];omega);simp[c1,w1,w2,w3,Xm];refine⟨by omega,by omega,by omega,by omega,k+1,by omega,by omega,aE [(nx,nx+1)] ?_⟩;rw[hts];simp[ah,Nat.add_assoc]
  ·obtain rfl:k=size:=by omega
   have c1:¬(k:Int)<=(k:Int)-1:=by omega
   have hl:=aY n k;have ht:(aF n k).take k=aF n k:=List.take_of_length_le (by omega);simp[c1,Tryz.results256,ht];subst hpre;exact⟨[],by simp⟩
end Go.Av
namespace Go.aW
def cK(b:List UInt8):Int:=IntKind.i64.wrap (Go.Av.iL b:Int)
end Go.aW
namespace Go.Av
open Go.Proofs Go.aW
theorem rW(m:Int):IntKind.i64.wrap m%18446744073709551616=m%18446744073709551616:=by
 rw[IntWalk.i64_left];unfold RowKit.wrap64;omega
theorem F9{m k:Int}(h:m%18446744073709551616=k%18446744073709551616):IntKind.i64.wrap m=IntKind.i64.wrap k:=by
 rw[IntWalk.i64_left,IntWalk.i64_left];unfold RowKit.wrap64;omega
theorem xg(V x:Nat)(hx:x<256):bits .or .i64 (IntKind.i64.wrap (IntKind.i64.wrap (V:Int)*2^min 8 IntKind.i64.bits)) (x:Int)=IntKind.i64.wrap ((V*256+x:Nat):Int):=by
 have p:(2:Int)^min 8 IntKind.i64.bits=256:=rfl;rw[p];have e1:IntKind.i64.wrap (IntKind.i64.wrap (V:Int)*256)=IntKind.i64.wrap ((V*256:Nat):Int):=F9 (by
  have:=rW (V:Int);rw[Int.mul_emod,this,<-Int.mul_emod];push_cast;rfl)
 rw[e1];unfold bits;have b:IntKind.i64.bits=64:=rfl;rw[b];simp only[BitVec.toNat_or,BitVec.toNat_ofInt,BitVec.ofInt_natCast,BitVec.toNat_ofNat];have e2:(IntKind.i64.wrap ((V*256:Nat):Int)%((2^64:Nat):Int)).toNat=(V%72057594037927936)*256:=by
  have:=rW ((V*256:Nat):Int);have vt:((2^64:Nat):Int)=18446744073709551616:=rfl;rw[vt,this];omega
 rw[e2,Nat.mod_eq_of_lt (by omega:x<2^64)];have h:=Nat.shiftLeft_add_eq_or_of_lt (i:=8) (b:=x) (by omega) (V%72057594037927936);rw[Nat.shiftLeft_eq]at h;have h2:(V%72057594037927936)*256|||x=(V%72057594037927936)*256+x:=h.symm;rw[h2];exact F9 (by omega)
theorem o8(b:List UInt8)(hb:b.length<=1000000000):aB Tryz.prog 255 [cy b] (.int (cK b)):=by
 refine QpQ (ys:=[_]) [] [] [] Tryz.func255 rfl (by simp[Tryz.ntmps255]) ?_;simp;have w00:IntKind.i64.wrap 0=0:=af (by omega) (by omega);refine bW (fun k:Nat=>k<=b.length) (fun k=>[(6,.p (cy b)),(7,.p (.int b.length)),(8,.p (.int k)),(3,.p (.int (cK (b.take k))))]) (fun k=>b.length-k) 0 (by simp) (aA (by simp[cK,iL,w00])) ?_;intro k hk;by_cases ck:k<b.length
 ·have w1:IntKind.i64.wrap ((k:Int)+1)=((k+1:Nat):Int):=by rw[af (by omega) (by omega)];rfl
  have wx:IntKind.i64.wrap (b[k].toNat:Int)=(b[k].toNat:Int):=af (by omega) (by have:=b[k].toNat_lt;omega);have ho:=xg (iL (b.take k)) b[k].toNat (b[k].toNat_lt);have hts:cK (b.take (k+1))=IntKind.i64.wrap ((iL (b.take k)*256+b[k].toNat:Nat):Int):=by
   unfold cK;rw[List.take_succ_eq_append_getElem ck,jj]
  rw[<-hts]at ho;change bits .or .i64 (IntKind.i64.wrap (cK (b.take k)*2^min 8 IntKind.i64.bits)) _=_ at ho;simp[ck,w1,wx,ho,cM];exact⟨k+1,by omega,by omega,aA (by simp)⟩
 ·obtain rfl:k=b.length:=by omega
  simp[Tryz.results255]
theorem HR(b:List UInt8)(z:Nat):(ah b).map AV.p++List.replicate z (AV.p (PC.sc (.int .u8 0)))=(ah (b++List.replicate z 0)).map AV.p:=by simp[ah]
def dK(b:List UInt8):List UInt8:=b++List.replicate (64-b.length) 0
theorem mE(b:List UInt8)(h:b.length<=64):(dK b).length=64:=by simp[dK];omega
theorem o9(nx id:Nat)(hid:id<nx)(b:List UInt8)(n:Nat)(hn:n=b.length)(hb:b.length<64):aI Tryz.prog 179 [.view id 0 n 1 none] ⟨[(id,ew b)],[],nx⟩ (.view nx 0 64 1 none) ⟨[(nx,ew (dK b))],[],nx+1⟩:=by
 subst hn;refine QgQ (rs:=[_]) [] [] [] Tryz.func179 rfl (by simp[Tryz.ntmps179]) ?_;obtain⟨z,hz⟩:∃z:Nat,64-b.length=z:=⟨_,rfl⟩;have wz:IntKind.i64.wrap (64-(b.length:Int))=(z:Int):=by rw[af (by omega) (by omega)];omega
 unfold dK;rw[hz];have ht:List.take b.length (List.map AV.p (ah b))=List.map AV.p (ah b):=List.take_of_length_le (by simp[ah]);have hz2:b.length+z=64:=by omega
 simp[wz,Tryz.results179,ht,hz2];have hr:=HR b z;refine⟨by omega,[],?_⟩;simp[hr]
theorem xm(nx:Nat):aI Tryz.prog 179 [.p .nil] ⟨[],[],nx⟩ (.view nx 0 64 1 none) ⟨[(nx,ew (dK []))],[],nx+1⟩:=by
 refine QgQ (rs:=[_]) [7] [] [] Tryz.func179 rfl (by simp[Tryz.ntmps179]) ?_;have wz:IntKind.i64.wrap 64=64:=af (by omega) (by omega);simp[wz,Tryz.results179];exact⟨[],by simp[dK,ah]⟩
theorem rR{f:FuncId}{xs:List AV}{tb aO:Tb}{id n:Nat}{b:List UInt8}(h:aI Tryz.prog f xs tb (.view id 0 n 1 none) aO)(hl:lk id aO.bx=some (ew b))(hn:n=b.length):aI Tryz.prog f xs tb (.p (cy b)) ⟨del id aO.bx,aO.rw,aO.nx+1⟩:=by
 subst hn;exact qQ h hl rfl (by omega) (by simp[ah]) (by simp only[Nat.mul_one];rw[mU,fQ];exact List.take_of_length_le (by simp[ah])) (by simp[ah]) (cg b) (fR b)
end Go.Av
namespace Go.aW
structure Mk where
 number:Int
 first:Int
 at':Int
def dn(m:Mk):cU:=(uC (aF m.number 8++84::(aF m.first 8++aF m.at' 4))).take 56++aF m.number 8
where uC (b:List UInt8):List UInt8:=b++List.replicate (64-b.length) 0
def oE(b:List UInt8)(rest n:Int):Mk×Bool:=let m:Mk:=⟨cK (b.take 8),cK ((b.drop 9).take 8),cK ((b.drop 17).take 4)⟩;(m,m.number==cK (b.drop 56)&&!(m.number==0)&&(m.number%2==rest)&&(b.getD 8 0==84)&&decide (2<=m.at')&&decide (m.at'<=n))
def rD(all:List cU):Mk×Bool:=let a:=oE (all.getD 0 []) 0 all.length;let b:=oE (all.getD 1 []) 1 all.length;if a.2=true/\(b.2=false\/b.1.number<a.1.number)then(a.1,true)else b
end Go.aW
namespace Go.Av
open Go.Proofs Go.aW
abbrev mkL(m:Mk):List PC:=[.int m.number,.int m.first,.int m.at']
abbrev Wk(m:Mk):PC:= .agg false (mkL m)
theorem FZ(b:List UInt8):dn.uC b=dK b:=rfl
theorem tE(m:Mk):(dn m).length=64:=by
 unfold dn;rw[FZ,List.length_append,List.length_take,mE _ (by simp[aY]),aY];rfl
theorem zh(m:Mk):aB Tryz.prog 183 [Wk m] (cy (dn m)):=by
 refine bN (xs:=[_]) (r:= .view 6 0 64 1 none) (aO:=⟨[(6,ew (dn m))],[],7⟩) ?_ (xk _ 3 6 _ (by simp[lk]) _ (tE m).symm);refine QgQ (rs:=[_]) [] [(2,[(3,.w []),(6,.w [])]),(3,[(1,.w []),(5,.w [])])] [] Tryz.func183 rfl (by simp[Tryz.ntmps183]) ?_;have l8:=aY m.number 8;have lf:=aY m.first 8;have la:=aY m.at' 4;obtain⟨b2,uy⟩:∃b2,aF m.number 8++84::(aF m.first 8++aF m.at' 4)=b2:=⟨_,rfl⟩;have l2:b2.length=21:=by rw[<-uy];simp[l8,lf,la]
 have lp:=mE b2 (by omega);have hS:dn m=(dK b2).take 56++aF m.number 8:=by unfold dn;rw[uy,FZ]
 rw[hS];obtain⟨p1,hp1⟩:∃p1,(dK b2).take 56=p1:=⟨_,rfl⟩;obtain⟨p2,N7⟩:∃p2,(dK b2).drop 56=p2:=⟨_,rfl⟩;have hpp:dK b2=p1++p2:=by rw[<-hp1,<-N7,List.take_append_drop]
 have lp1:p1.length=56:=by rw[<-hp1];simp[lp]
 rw[hp1];simp;refine az (iI 0 [] [] (.p .nil) [] 0 (.inr ⟨rfl,rfl,rfl⟩) (by simp) m.number 8 (by omega)) (by simp) trivial trivial rfl ?_;have t1:List.take 8 (List.map AV.p (ah (aF m.number 8)))=List.map AV.p (ah (aF m.number 8)):=List.take_of_length_le (by simp[ah,l8]);have e1:(ah (aF m.number 8)).map AV.p++[AV.p (PC.sc (.int .u8 84))]=(ah (aF m.number 8++[84])).map AV.p:=by simp[ah]
 simp[t1,l8,e1];refine az (iI 2 (aF m.number 8++[84]) [] (.view 1 0 9 1 none) [(1,ew (aF m.number 8++[84]))] 1 (.inl ⟨by simp[l8],by simp⟩) (by simp[l8]) m.first 8 (by omega)) (by simp) (by simp[ay]) trivial rfl ?_;simp[l8];refine az (iI 3 (aF m.number 8++[84]++aF m.first 8) [] (.view 2 0 17 1 none) [(2,ew (aF m.number 8++[84]++aF m.first 8))] 2 (.inl ⟨by simp[l8,lf],by simp⟩) (by simp[l8,lf]) m.at' 4 (by omega)) (by simp) (by simp[ay]) trivial rfl ?_;have e3:aF m.number 8++[84]++aF m.first 8++aF m.at' 4=b2:=by rw[<-uy];simp
 simp only[e3];simp[l8,lf];refine az (o9 4 3 (by omega) b2 21 l2.symm (by omega)) (by simp) (by simp[ay]) trivial rfl ?_;simp;refine az (iI 5 p1 p2 (.view 4 0 56 1 none) [(4,ew (dK b2))] 4 (.inl ⟨by simp[lp1],by rw[hpp]⟩) (by omega) m.number 8 (by omega)) (by simp) (by simp[ay]) trivial rfl ?_;simp[lp1,Tryz.results183];exact⟨[(6,5)],by simp⟩
theorem ag2(a:Int):bits .and .i64 a 1=a%2:=by
 unfold bits;have b:IntKind.i64.bits=64:=rfl;rw[b];simp only[BitVec.toNat_and,BitVec.toNat_ofInt];have vt:((2^64:Nat):Int)=18446744073709551616:=rfl;rw[vt];have e1:((1:Int)%18446744073709551616).toNat=2^1-1:=rfl;rw[e1,Nat.and_two_pow_sub_one_eq_mod];rw[af (by omega) (by omega)];omega
theorem zg(b:List UInt8)(hb:b.length=64)(rest n:Int):aB Tryz.prog 254 [cy b,.int rest,.int n] (.tp [Wk (oE b rest n).1,.bool (oE b rest n).2]):=by
 have h1:=o8 (b.take 8) (by simp;omega);have h2:=o8 ((b.drop 9).take 8) (by simp;omega);have h3:=o8 ((b.drop 17).take 4) (by simp;omega);have h4:=o8 (b.drop 56) (by simp;omega);unfold oE;generalize cK (b.take 8)=N at*;generalize cK ((b.drop 9).take 8)=Fi at*;generalize cK ((b.drop 17).take 4)=A at*;generalize cK (b.drop 56)=T at*;have bw:∀y∈ah b,1=y.width:=fun y h=>(cg b y h).symm;have k1:List.take 8 (ah b)=ah (b.take 8):=by simp[ah]
 have k2:List.drop 9 (List.take 17 (ah b))=ah ((b.drop 9).take 8):=by simp[ah,List.drop_take]
 have k3:List.drop 17 (List.take 21 (ah b))=ah ((b.drop 17).take 4):=by simp[ah,List.drop_take]
 have k4:List.drop 56 (ah b)=ah (b.drop 56):=by simp[ah]
 have h8:8<b.length:=by omega
 have a1:=ag2 N;have hg:(b.getD 8 0==84)=((b[8].toNat:Int)==84):=by
  rw[List.getD_eq_getElem?_getD,List.getElem?_eq_getElem h8];by_cases h:b[8]=84
  ·simp[h]
  ·have h1:(b[8]==84)=false:=by simpa using h
   have h2:¬b[8].toNat=84:=fun h3=>h (UInt8.toNat_inj.1 h3);have h3:((b[8].toNat:Int)==84)=false:=by simp;omega
   simp[h1,h3]
 refine QpQ (ys:=[_,_]) [] [(1,[(10,.w []),(11,.w [])]),(2,[(1,.r 1),(8,.r 1),(13,.r 1),(26,.r 1),(31,.r 1)])] [(1,1)] Tryz.func254 rfl (by simp[Tryz.ntmps254]) ?_;simp only[hg];simp[k1,hb];refine⟨bw,bD h1 ?_⟩;simp[k2,hb];refine⟨bw,bD h2 ?_⟩;simp[k3,hb];refine⟨bw,bD h3 ?_⟩;simp[k4,hb];refine⟨bw,bD h4 ?_⟩;have g8:(ah b)[8]?=some (oc b[8]):=by simp[ah,h8]
 cases c1:(N==T)with
 |false=>
  simp[c1,Tryz.results254]
 |true=>
  cases c2:(N==0)with
  |true=>simp[c1,c2,bne,Tryz.results254]
  |false=>
   cases c3:(N%2==rest)with
   |false=>simp[c1,c2,c3,a1,bne,Tryz.results254]
   |true=>
    cases c4:((b[8].toNat:Int)==84)with
    |false=>simp[c1,c2,c3,c4,a1,g8,bne,Tryz.results254]
    |true=>
     by_cases c5:2<=A
     ·by_cases c6:A<=n
      ·simp[c1,c2,c3,c4,c5,c6,a1,g8,bne,Tryz.results254]
      ·simp[c1,c2,c3,c4,c5,c6,a1,g8,bne,Tryz.results254]
     ·simp[c1,c2,c3,c4,c5,a1,g8,bne,Tryz.results254]
theorem HL(all:List cU)(h2:2<=all.length)(h3:all.length<=65536)(h:∀s∈all,s.length=64):aB Tryz.prog 162 [.sl (all.map cy)] (.tp [Wk (rD all).1,.bool (rD all).2]):=by
 have e0:all.getD 0 []=all[0]:=by rw[List.getD_eq_getElem?_getD,List.getElem?_eq_getElem (by omega)];rfl
 have e1:all.getD 1 []=all[1]:=by rw[List.getD_eq_getElem?_getD,List.getElem?_eq_getElem (by omega)];rfl
 have hA:=zg all[0] (h _ (List.getElem_mem _)) 0 all.length;have hB:=zg all[1] (h _ (List.getElem_mem _)) 1 all.length;unfold rD;rw[e0,e1];have g0:(all.map cy)[0]?=some (cy all[0]):=by rw[List.getElem?_map,List.getElem?_eq_getElem (by omega)];rfl
 have g1:(all.map cy)[1]?=some (cy all[1]):=by rw[List.getElem?_map,List.getElem?_eq_getElem (by omega)];rfl
 generalize oE all[0] 0 all.length=a at*;generalize oE all[1] 1 all.length=b at*;obtain⟨⟨a1,a2,a3⟩,ok⟩:=a;obtain⟨⟨b1,b2,b3⟩,is⟩:=b;refine QpQ (ys:=[_,_]) [] [] [] Tryz.func162 rfl (by simp[Tryz.ntmps162]) ?_;have l0:0<all.length:=by omega
 have l1:1<all.length:=by omega
 simp[l0];refine ai hA (by simp) ?_;simp[l1];refine ai hB (by simp) ?_;cases ok with
 |false=>simp[Tryz.results162]
 |true=>
  cases is with
  |false=>simp[Tryz.results162]
  |true=>
   by_cases c:b1<a1
   ·simp[c,Tryz.results162]
   ·simp[c,Tryz.results162]
end Go.Av
namespace Go.aW
def tu(size aM n a:Int):Bool:=decide (0<=a)&&decide (a<size)&&(decide (a<aM)||decide (aM+n<=a))
end Go.aW
namespace Go.Av
open Go.Proofs Go.aW
abbrev LL(D:aU):PC:= .agg false [.int D.n,.sl (D.bad.map PC.int),.int D.left,.sl (D.kept.map KZ),.sl (D.now.map KZ),.sl (D.q.map HU)]
abbrev K5(D:aU)(aM n:Int):PC:= .agg false [.ref (LL D),.int aM,.int n]
theorem QN(D:aU):aB Tryz.prog 74 [.ref (LL D)] (.int D.kept.length):=by
 refine QpQ (ys:=[_]) [] [] [] Tryz.func74 rfl (by simp[Tryz.ntmps74]) ?_;simp[Tryz.results74]
theorem xq(D:aU)(hl:D.kept.length<=65536)(aM n a:Int)(hf:0<=aM/\aM<=1000000)(hn:0<=n/\n<=1000000):aB Tryz.prog 259 [K5 D aM n,.int a] (.bool (tu D.kept.length aM n a)):=by
 have hS:=QN D;have w1:IntKind.i64.wrap (aM+n)=aM+n:=af (by omega) (by omega);refine QpQ (ys:=[_]) [] [] [] Tryz.func259 rfl (by simp[Tryz.ntmps259]) ?_;unfold tu;by_cases c1:0<=a
 ·simp[c1];refine ai hS (by simp) ?_;by_cases c2:a<D.kept.length
  ·by_cases c3:a<aM
   ·simp[c2,c3,Tryz.results259]
   ·simp[c2,c3,w1,Tryz.results259]
  ·simp[c2,Tryz.results259]
 ·simp[c1,Tryz.results259]
theorem K6(D:aU)(hl:D.kept.length<=65536)(aM n:Int)(hf:0<=aM/\aM<=1000000)(hn:0<=n/\n<=1000000)(x:Int×List UInt8):aB Tryz.prog 258 [eM x,.ref (K5 D aM n)] (.bool (!tu D.kept.length aM n x.1)):=by
 refine QpQ (ys:=[_]) [] [] [] Tryz.func258 rfl (by simp[Tryz.ntmps258]) ?_;simp;refine ai (xq D hl aM n x.1 hf hn) (by simp) ?_;simp[Tryz.results258]
end Go.Av
namespace Go.aW
def putAt(all:List cU)(head:cU)(a i:Nat):Int×List UInt8:=(cK ((head.drop (10+5*i)).take 4),(all.getD (a+1+i) []).set 0 (head.getD (10+5*i+4) 0))
def Ap(all:List cU)(a nx:Int):Bool:=decide (2<=a)&&decide (a<all.length)&&((all.getD a.toNat []).getD 0 0==72)&&(cK (((all.getD a.toNat []).drop 1).take 8)==nx)&&decide (1<=((all.getD a.toNat []).getD 9 0).toNat)&&decide (((all.getD a.toNat []).getD 9 0).toNat<=10)&&decide (a.toNat+((all.getD a.toNat []).getD 9 0).toNat+1<all.length)&&((all.getD (a.toNat+((all.getD a.toNat []).getD 9 0).toNat+1) []).take 9==67::aF nx 8)
def Aq(all:List cU)(a:Int):List (Int×List UInt8):=(List.range ((all.getD a.toNat []).getD 9 0).toNat).map (putAt all (all.getD a.toNat []) a.toNat)
def oC(size aM n:Int)(all:List cU)(a nx:Int):List (Int×List UInt8)×Bool:=if Ap all a nx=true then(Aq all a,!((Aq all a).any fun x=>!tu size aM n x.1))else([],false)
end Go.aW
namespace Go.Av
open Go.Proofs Go.aW
theorem KY(bx:List (Nat×Ob))(k id:Nat)(b c:List UInt8)(h:lk id bx=some (ew (b++c)))(n:Nat)(hn:n=b.length):cQ bx (k+1) (.view id 0 n 1 none) (cy b):=by
 subst hn;refine⟨_,h,by omega,by simp[ah],by simp[ah],?_,?_,?_⟩
 ·rw[mU,fQ];simp only[List.drop_zero,Nat.mul_one];simp[ah]
 ·exact cg b
 ·exact fR b
theorem vF(L:List cU):(L.map KZ).flatMap gu=L.flatMap ah:=by
 induction L with
 |nil=>rfl
 |cons x L ih=>rw[List.map_cons,List.flatMap_cons,List.flatMap_cons,ih];show gu (KZ x)++_=_;rw[show gu (KZ x)=(ah x).flatMap gu from by rw[fQ];simp,fQ]
theorem wX(nx:Nat)(b:List UInt8)(hb:b.length<=1000000000):aI Tryz.prog 104 [.p (cy b)] ⟨[],[],nx⟩ (.view nx 0 b.length 1 none) ⟨[(nx,ew b)],[],nx+1⟩:=by
 have h:=za nx (ah b) (cg b) (fR b) (by simp[ah];omega);rw[fQ]at h;have e:(ah b).length=b.length:=by simp[ah]
 rw[e]at h;exact h
theorem K0(D:aU)(hl:D.kept.length<=65536)(agR:∀s∈D.kept,s.length=64)(agS:∀s∈D.now,s.length=64)(aM n:Int)(hf:0<=aM/\aM<=1000000)(hn:0<=n/\n<=1000000)(all:List cU)(h3:all.length<=65536)(h:∀s∈all,s.length=64)(a nx:Int)(ha:-9223372036854775808<=a/\a<=9223372036854775807):aI Tryz.prog 163 [.agg false [.obj 0 0,.p (.int aM),.p (.int n)],.p (.sl (all.map cy)),.p (.int a),.p (.int nx)] ⟨cC 3 D,cp 3,4⟩ (.agg true [.p (.sl ((oC D.kept.length aM n all a nx).1.map eM)),.p (.bool (oC D.kept.length aM n all a nx).2)]) ⟨cC 3 D,cp 3,4⟩:=by
 refine QgQ (rs:=[_,_]) [4,61] [(8,[(11,.w [])])] [] Tryz.func163 rfl (by simp[Tryz.ntmps163]) ?_;by_cases c1:a<2
 ·have hF:oC D.kept.length aM n all a nx=([],false):=by
   have:¬(2:Int)<=a:=by omega
   unfold oC Ap;simp[this]
  rw[hF];simp[c1,Tryz.results163];exact⟨[],by simp[ax]⟩
 by_cases c2:(all.length:Int)<=a
 ·have hF:oC D.kept.length aM n all a nx=([],false):=by
   have:¬a<(all.length:Int):=by omega
   unfold oC Ap;simp[this]
  rw[hF];simp[c1,c2,Tryz.results163];exact⟨[],by simp[ax]⟩
 obtain⟨A,rfl⟩:∃A:Nat,a=A:=⟨a.toNat,by omega⟩;have hA:A<all.length:=by omega
 have eA:all.getD A []=all[A]:=by rw[List.getD_eq_getElem?_getD,List.getElem?_eq_getElem hA];rfl
 have hlen:=h _ (List.getElem_mem hA);have jH:(2:Int)<=A:=by omega
 have dX:(A:Int)<all.length:=by omega
 obtain⟨hd,hhd⟩:∃hd,all[A]=hd:=⟨_,rfl⟩;rw[hhd]at hlen eA;have g0:hd.getD 0 0=hd[0]:=by rw[List.getD_eq_getElem?_getD,List.getElem?_eq_getElem (by omega)];rfl
 have g9:hd.getD 9 0=hd[9]:=by rw[List.getD_eq_getElem?_getD,List.getElem?_eq_getElem (by omega)];rfl
 have q0:(ah hd)[0]?=some (oc hd[0]):=by rw[List.getElem?_eq_getElem (by simp[ah];omega),cM]
 have q9:(ah hd)[9]?=some (oc hd[9]):=by rw[List.getElem?_eq_getElem (by simp[ah];omega),cM]
 have bw:∀y∈ah hd,1=y.width:=fun y h=>(cg hd y h).symm;have w9:IntKind.i64.wrap (hd[9].toNat:Int)=(hd[9].toNat:Int):=af (by omega) (by have:=hd[9].toNat_lt;omega);have k1:List.drop 1 (List.take 9 (ah hd))=ah ((hd.drop 1).take 8):=by simp[ah,List.drop_take]
 have hW:=o8 ((hd.drop 1).take 8) (by simp;omega);have gA:(all.map cy)[A]?=some (cy hd):=by rw[List.getElem?_map,List.getElem?_eq_getElem hA,hhd];rfl
 obtain⟨K,hK⟩:∃K:Nat,hd[9].toNat=K:=⟨_,rfl⟩;have aoQ:K<256:=by have:=hd[9].toNat_lt;omega
 obtain⟨W,hWd⟩:∃W:Int,cK ((hd.drop 1).take 8)=W:=⟨_,rfl⟩;rw[hWd]at hW;have e0:(hd[0]==72)=((hd[0].toNat:Int)==72):=by
  by_cases h:hd[0]=72
  ·simp[h]
  ·have h1:(hd[0]==72)=false:=by simpa using h
   have h2:¬hd[0].toNat=72:=fun h3=>h (UInt8.toNat_inj.1 h3);have h3:((hd[0].toNat:Int)==72)=false:=by simp;omega
   simp[h1,h3]
 have hB:Ap all A nx=(((hd[0].toNat:Int)==72)&&(W==nx)&&decide (1<=K)&&decide (K<=10)&&decide (A+K+1<all.length)&&((all.getD (A+K+1) []).take 9==67::aF nx 8)):=by
  unfold Ap;simp only[Int.toNat_natCast,eA,g0,g9,hK,hWd,e0,jH,dX,decide_true,Bool.true_and]
 have wK:IntKind.i64.wrap (K:Int)=K:=af (by omega) (by omega);have wA:IntKind.i64.wrap ((A:Int)+K)=((A+K:Nat):Int):=by rw[af (by omega) (by omega)];rfl
 have V_:IntKind.i64.wrap ((A:Int)+K+1)=((A+K+1:Nat):Int):=by rw[af (by omega) (by omega)];rfl
 rw[hK]at w9;have fail:∀(hx:Ap all A nx=false),oC D.kept.length aM n all A nx=([],false):=fun hx=>by unfold oC;rw[if_neg (by rw[hx];simp)]
 cases c3:((hd[0].toNat:Int)==72)with
 |false=>
  rw[fail (by rw[hB,c3];rfl)];simp[c1,c2,gA,q0,q9,hK,w9,c3,bne,Tryz.results163];exact⟨[],by simp[ax]⟩
 |true=>
  simp[c1,c2,gA,q0,q9,hK,w9,c3,bne,k1];refine⟨bw,by omega,ai hW (by simp) ?_⟩;cases c4:(W==nx)with
  |false=>
   rw[fail (by rw[hB,c3,c4];rfl)];simp[c4,bne,Tryz.results163];exact⟨[],by simp[ax]⟩
  |true=>
   by_cases c5:K<1
   ·have pP:(K:Int)<1:=by omega
    rw[fail (by rw[hB];simp[show¬1<=K by omega])];simp[c4,bne,pP,Tryz.results163];exact⟨[],by simp[ax]⟩
   have pP:¬(K:Int)<1:=by omega
   by_cases c6:10<K
   ·have Bq:(10:Int)<K:=by omega
    rw[fail (by rw[hB];simp[show¬K<=10 by omega])];simp[c4,bne,pP,Bq,Tryz.results163];exact⟨[],by simp[ax]⟩
   have Bq:¬(10:Int)<K:=by omega
   by_cases c7:all.length<=A+K+1
   ·have c7':(all.length:Int)<=(A:Int)+K+1:=by omega
    rw[fail (by rw[hB];simp[show¬A+K+1<all.length by omega])];simp[c4,bne,pP,Bq,c7',wA,V_,Tryz.results163];exact⟨[],by simp[ax]⟩
   have c7':¬(all.length:Int)<=(A:Int)+K+1:=by omega
   have hAK:A+K+1<all.length:=by omega
   have l8:=aY nx 8;have eF:all.getD (A+K+1) []=all[A+K+1]:=by rw[List.getD_eq_getElem?_getD,List.getElem?_eq_getElem hAK];rfl
   have gF:all[A+K+1]?=some all[A+K+1]:=List.getElem?_eq_getElem hAK;have hFl:=h _ (List.getElem_mem hAK);have eT:((A:Int)+K+1).toNat=A+K+1:=by omega
   simp[c4,bne,pP,Bq,c7',wA,V_];refine az (iI 6 [67] [] (.view 5 0 1 1 none) [(5,ew [67])] 5 (.inl ⟨by simp,by simp⟩) (by simp) nx 8 (by omega)) (by simp) (by simp[ay,ah]) trivial rfl ?_;simp;refine az (o9 7 6 (by omega) (67::aF nx 8) 9 (by simp[l8]) (by simp[l8])) (by simp) (by simp[ay]) trivial rfl ?_;have i1:(0:Int)<=(A:Int)+K+1:=by omega
   have gM:(all.map cy)[A+K+1]?=some (cy all[A+K+1]):=by rw[List.getElem?_map,gF];rfl
   have b9:List.take 9 (ah all[A+K+1])=ah (all[A+K+1].take 9):=by simp[ah]
   simp[wA,V_,eT,i1,gM,b9];refine⟨fun y h=>(cg _ y h).symm,by omega,?_⟩;refine T8 (67::aF nx 8) (by kernel_rfl) (by kernel_rfl) (KY _ 0 7 (67::aF nx 8) (List.replicate (64-(67::aF nx 8).length) 0) (by simp[lk,dK]) 9 (by simp[l8])) ?_;cases c8:(all[A+K+1].take 9==67::aF nx 8)with
   |false=>
    rw[fail (by rw[hB,eF,c8];simp)];simp[c8,bne,Tryz.results163];exact⟨[],by simp[ax]⟩
   |true=>
    have hB2:Ap all A nx=true:=by rw[hB,c3,c4,eF,c8];simp;omega
    have hF:oC D.kept.length aM n all A nx=(Aq all A,!((Aq all A).any fun x=>!tu D.kept.length aM n x.1)):=by unfold oC;rw[if_pos hB2]
    have hFL:Aq all A=(List.range K).map (putAt all hd A):=by unfold Aq;rw[Int.toNat_natCast,eA,g9,hK]
    rw[hF,hFL];simp[c8,bne];refine aN (fun k:Nat=>k<=K) (fun k=>[(1,.p (.sl (all.map cy))),(2,.p (.int A)),(4,.obj 4 0),(10,.p (cy hd)),(13,.own 5 (((List.range k).map (putAt all hd A)).map eM)),(78,.p (.int K)),(79,.p (.int k))]) (fun _=>⟨(4,⟨261,3,[.obj 0 0,.p (.int aM),.p (.int n)]⟩)::cC 3 D,(5,364,2)::cp 3,6⟩) (fun k=>K-k) 0 (by simp) _ (wY 13 364 2 [] (.inr ⟨rfl,by simp⟩)) (aE [(5,8)] (by simp[ax])) ?_;intro k hk;by_cases ck:k<K
    ·have hkA:A+1+k<all.length:=by omega
     have gK:(all.map cy)[A+1+k]?=some (cy all[A+1+k]):=by rw[List.getElem?_map,List.getElem?_eq_getElem hkA];rfl
     have wB:IntKind.i64.wrap ((A:Int)+1)=(A:Int)+1:=af (by omega) (by omega);have wC:IntKind.i64.wrap ((A:Int)+1+k)=(A:Int)+1+k:=af (by omega) (by omega);have i2:(0:Int)<=(A:Int)+1+k:=by omega
     have e2:((A:Int)+1+k).toNat=A+1+k:=by omega
     have hKl:=h _ (List.getElem_mem hkA);simp[ck,wB,wC,i2,e2,gK];refine az (wX 6 all[A+1+k] (by omega)) (by simp) (by simp[ay]) trivial rfl ?_;have wD:IntKind.i64.wrap (5*(k:Int))=5*(k:Int):=af (by omega) (by omega);have wE:IntKind.i64.wrap (10+5*(k:Int))=10+5*(k:Int):=af (by omega) (by omega);have i3:(0:Int)<=10+5*(k:Int):=by omega
     have i4:10+5*(k:Int)<=hd.length:=by omega
     have e3:(10+5*(k:Int)).toNat=10+5*k:=by omega
     obtain⟨T,hT⟩:∃T,hd.drop (10+5*k)=T:=⟨_,rfl⟩;have hT4:4<T.length:=by rw[<-hT];simp;omega
     have e4:List.drop (10+5*k) (ah hd)=ah T:=by rw[<-hT];simp[ah]
     have qT:(ah T)[4]?=some (oc T[4]):=by rw[List.getElem?_eq_getElem (by simp[ah];omega),cM]
     have e5:List.take 4 (ah T)=ah (T.take 4):=by simp[ah]
     have hw4:=o8 (T.take 4) (by simp;omega);have hP:putAt all hd A k=(cK (T.take 4),all[A+1+k].set 0 T[4]):=by
      have z1:hd.getD (10+5*k+4) 0=T[4]:=by
       have:T[4]=hd[10+5*k+4]'(by omega):=by simp[<-hT]
       rw[this,List.getD_eq_getElem?_getD,List.getElem?_eq_getElem (by omega)];rfl
      have z2:all.getD (A+1+k) []=all[A+1+k]:=by rw[List.getD_eq_getElem?_getD,List.getElem?_eq_getElem hkA];rfl
      unfold putAt;rw[hT,z1,z2]
     have gy:(AV.p (PC.sc (Value.int IntKind.u8 T[4].toNat))::(List.map AV.p (ah all[A+1+k])).tail)=(ah (all[A+1+k].set 0 T[4])).map .p:=by
      cases hX:all[A+1+k]with
      |nil=>rw[hX]at hKl;simp at hKl
      |cons x X=>simp[ah]
     have FJ:List.range (k+1)=List.range k++[k]:=List.range_succ;have wk:IntKind.i64.wrap ((k:Int)+1)=((k+1:Nat):Int):=by rw[af (by omega) (by omega)];rfl
     simp[wD,wE,i3,e3,e4,qT,e5,gy];refine⟨bw,by omega,by omega,by omega,fun y h=>(cg _ y h).symm,by omega,ai hw4 (by simp) ?_⟩;simp;refine Ar [eM (putAt all hd A k)] ⟨(4,⟨261,3,[.obj 0 0,.p (.int aM),.p (.int n)]⟩)::cC 3 D,(5,364,2)::cp 3,8⟩ (by simp[bq]) ?_ (by simp) (by simp) ?_
     ·rw[hP];simp[wZ,K2,K3,HC];exact⟨by rw[fQ];exact List.take_of_length_le (by simp[ah]),fun y h=>cg _ y h,fun y h=>fR _ y h⟩
     simp[wk];exact⟨by omega,by omega,k+1,by omega,by omega,aE [(5,8)] (by simp[FJ,ax])⟩
    ·obtain rfl:k=K:=by omega
     simp;refine bE (K4 258 [.ref (K5 D aM n)] (fun x=>!tu D.kept.length aM n x.1) ((List.range k).map (putAt all hd A)) (by simp;omega) (fun x _=>K6 D hl aM n hf hn x)) ?_ rfl ?_
     ·have s1:=jC _ agR;have s2:=jC _ agS;simp[ie,cQ];refine⟨⟨by simp[ax,s1],by rw[vF];simp only[ax];exact List.take_of_length_le (by simp[s1]),agR⟩,by simp[ax,s2],by rw[vF];simp only[ax];exact List.take_of_length_le (by simp[s2]),agS⟩
     simp[Tryz.results163];exact⟨[],by simp[ax]⟩
end Go.Av
namespace Go.aW
def sE(size aM n:Int):Int:=if n<5\/aM<0\/size<n\/size-n<aM then 2 else 0
end Go.aW
namespace Go.Av
open Go.Proofs Go.aW
theorem CW(D:aU)(hd:D.kept.length<=65536)(aM n:Int):aI Tryz.prog 161 [.obj 0 0,.p (.int aM),.p (.int n)] ⟨[(0,AA 3 D)],[],4⟩ (.p (.int (sE D.kept.length aM n))) ⟨[(0,AA 3 D)],[],4⟩:=by
 have hS:=Eb D;unfold sE;refine QgQ (rs:=[_]) [] [] [] Tryz.func161 rfl (by simp[Tryz.ntmps161]) ?_;by_cases c1:n<5
 ·simp[c1,Tryz.results161];exact⟨[],by simp⟩
 by_cases c2:aM<0
 ·simp[c1,c2,Tryz.results161];exact⟨[],by simp⟩
 simp[c1,c2];refine az hS (by simp) (by simp[ay]) trivial rfl ?_;by_cases c3:(D.kept.length:Int)<n
 ·simp[c3,Tryz.results161];exact⟨[],by simp⟩
 simp[c3];refine az hS (by simp) (by simp[ay]) trivial rfl ?_;have w1:IntKind.i64.wrap ((D.kept.length:Int)-n)=(D.kept.length:Int)-n:=af (by omega) (by omega);by_cases c4:(D.kept.length:Int)-n<aM
 ·simp[c4,w1,Tryz.results161];exact⟨[],by simp⟩
 ·simp[c4,w1,Tryz.results161];exact⟨[],by simp⟩
theorem oF(D:aU)(b:Nat)(hD:eu b D)(aM n a:Int)(hf:0<=aM/\aM<=1000000)(ha:-1000000000<=a/\a<=1000000000)(l:List cU)(hl:l.length<=1000000000)(hb:b+l.length<=1000000000000):aI Tryz.prog 181 [.agg false [.obj 0 0,.p (.int aM),.p (.int n)],.p (.int a),.p (.sl (l.map cy))] ⟨cC 3 D,cp 3,4⟩ (.p (.int (D.write (aM+a) l).2)) ⟨cC 4 (D.write (aM+a) l).1,cp 4,5⟩:=by
 have w1:IntKind.i64.wrap (aM+a)=aM+a:=af (by omega) (by omega);refine QgQ (rs:=[_]) [3] [] [] Tryz.func181 rfl (by simp[Tryz.ntmps181]) ?_;simp[w1];refine ak [0,1,2,3] (pe D b hD (aM+a) (by omega) l hl hb) (by simp) (by simp) (by simp[ay,ax]) (by simp[ay]) ?_;simp[Tryz.results181,ax];exact⟨[(4,5)],by simp⟩
end Go.Av
namespace Go.aW
theorem eu.write{b:Nat}{D:aU}(h:eu b D)(a:Int)(l:List cU):eu (b+l.length) (D.write a l).1:=by
 unfold aU.write;split
 ·rename_i hc;split
  ·have hh:=h.next;have ht:0<=a/\a<=D.kept.length/\(0:Int)<=(l.length:Int)/\(l.length:Int)<=D.kept.length-a:=by
    have:=hc.1;unfold aU.there at this;simp at this;omega
   have hk:D.next.1.kept.length=D.kept.length:=by unfold aU.next;split<;>rfl
   exact hh.lay a.toNat l (fun s hs=>by have:=List.all_eq_true.1 hc.2 s hs;simpa using this) (by rw[hk];omega)
  ·exact h.next.up (by omega)
 ·exact h.up (by omega)
theorem eu.read{b:Nat}{D:aU}(h:eu b D)(a n:Int):eu b (D.read a n).1:=by
 unfold aU.read;split
 ·split
  ·exact h.next
  ·exact h.next
 ·exact h
theorem eu.flush{b:Nat}{D:aU}(h:eu b D):eu b D.flush.1:=by
 unfold aU.flush;split
 ·exact h.next.settle.up (by omega)
 ·exact h.next
abbrev u_:=Int×List UInt8
structure Jr where
 aM:Int
 n:Int
 F0:Mk
 next:Int
 at':Int
 base:Int
 wr:Bool
 cq:List u_
 cnt:Int
def gC:List u_->aU->aU×Int
 |[],D=>(D,0)
 |p::l,D=>if(D.write p.1 [p.2]).2=0 then gC l (D.write p.1 [p.2]).1 else D.write p.1 [p.2]
theorem eu.home{b:Nat}:∀(l:List u_) {D:aU},eu b D->eu (b+l.length) (gC l D).1
 |[],_,h=>h
 |p::l,D,h=>by
  unfold gC;have hw:=h.write p.1 [p.2];split
  ·exact(eu.home l hw).up (by simp;omega)
  ·exact hw.up (by simp)
def Jr.kW(J:Jr):Mk:=⟨IntKind.i64.wrap (J.F0.number+1),J.next,J.at'⟩
def Jr.tell(J:Jr)(D:aU):aU×Int:=D.write (J.aM+J.kW.number%2) [dn J.kW]
def Jr.settled(J:Jr):Jr:={J with F0:=if 0<J.cnt then J.kW else J.F0,base:=J.at',wr:=false,cq:=[],cnt:=0}
end Go.aW
namespace Go.Av
open Go.Proofs Go.aW
@[reducible]def eY(d r:Nat)(J:Jr):Ob:=⟨268,12,[.obj d 0,.p (.int J.aM),.p (.int J.n),.p (.int J.F0.number),.p (.int J.F0.first),.p (.int J.F0.at'),.p (.int J.next),.p (.int J.at'),.p (.int J.base),.p (.bool J.wr),.own r (J.cq.map eM),.p (.int J.cnt)]⟩
structure Bo(J:Jr):Prop where
 aM:0<=J.aM/\J.aM<=1000000
 n:5<=J.n/\J.n<=1000000
 cq:J.cq.length<=1000000000
 at':0<=J.at'/\J.at'<=100000000
 base:0<=J.base/\J.base<=100000000
theorem Fv(D:aU)(b:Nat)(hD:eu b D)(J:Jr)(hJ:Bo J)(hb:b<=100000000000)(ho:∀p∈J.cq,-9223372036854775808<=p.1/\p.1<=9223372036854775807):aI Tryz.prog 165 [.obj 4 0] ⟨(4,eY 0 5 J)::cC 3 D,(5,364,2)::cp 3,6⟩ (.p (.int (gC J.cq D).2)) ⟨(4,eY 0 5 J)::cC 6 (gC J.cq D).1,(5,364,2)::cp 6,7⟩:=by
 have yt:=hJ.cq;refine QgQ (rs:=[_]) [4] [(4,[(4,.r 1),(6,.r 2),(8,.r 2),(10,.w [1,2])])] [(1,4),(2,7)] Tryz.func165 rfl (by simp[Tryz.ntmps165]) ?_;simp;refine aN (fun(kD:Nat×aU)=>kD.1<=J.cq.length/\eu (b+kD.1) kD.2/\gC (J.cq.drop kD.1) kD.2=gC J.cq D) (fun kD=>[(0,.obj 4 0),(9,.own 5 (J.cq.map eM)),(10,.p (.int J.cq.length)),(11,.p (.int kD.1))]) (fun kD=>⟨(4,eY 0 5 J)::cC 6 kD.2,(5,364,2)::cp 6,7⟩) (fun kD=>J.cq.length-kD.1) (0,D) ⟨by simp,hD,by simp⟩ _ (AS.le_refl _ _) (aE [(6,3)] (by simp[ax])) ?_;rintro⟨k,E⟩ ⟨hk,hE,hh⟩;simp only at hk hE hh;by_cases ck:k<J.cq.length
 ·have gp:(J.cq.map eM)[k]?=some (eM J.cq[k]):=by rw[List.getElem?_map,List.getElem?_eq_getElem ck];rfl
  have hpk:=ho _ (List.getElem_mem ck);obtain⟨p,hp⟩:∃p,J.cq[k]=p:=⟨_,rfl⟩;rw[hp]at gp hpk;have Dw:J.cq.drop k=p::J.cq.drop (k+1):=by rw[List.drop_eq_getElem_cons ck,hp]
  rw[Dw]at hh;have wk:IntKind.i64.wrap ((k:Int)+1)=((k+1:Nat):Int):=by rw[af (by omega) (by omega)];rfl
  have hW:=pe E (b+k) hE p.1 hpk [p.2] (by simp) (by simp;omega);simp[ck,eY,hp];refine ak [0,1,2,6] hW (by simp) (by simp) (by simp[ay,ax]) (by simp[ay]) ?_;by_cases c2:(E.write p.1 [p.2]).2=0
  ·have G4:gC (J.cq.drop (k+1)) (E.write p.1 [p.2]).1=gC J.cq D:=by rw[<-hh,gC,if_pos c2]
   have jV:=hE.write p.1 [p.2];simp[c2,wk,ax];exact⟨k+1,_,⟨by omega,jV,G4⟩,by omega,aE [(6,8)] (by simp[ax])⟩
  ·have dX:((E.write p.1 [p.2]).2 !=0)=true:=by simpa using c2
   rw[<-hh,gC,if_neg c2];simp[dX,ax,Tryz.results165];exact⟨[(6,8)],by simp⟩
 ·obtain rfl:k=J.cq.length:=by omega
  rw[List.drop_length]at hh;rw[<-hh];simp[gC,Tryz.results165];exact⟨[],by simp[ax]⟩
theorem Fw(D:aU)(b:Nat)(hD:eu b D)(J:Jr)(hJ:Bo J)(hb:b<=100000000000):aI Tryz.prog 167 [.obj 4 0] ⟨(4,eY 0 5 J)::cC 3 D,(5,364,2)::cp 3,6⟩ (.p (.int (J.tell D).2)) ⟨(4,eY 0 5 J)::cC 6 (J.tell D).1,(5,364,2)::cp 6,7⟩:=by
 have hf:=hJ.aM;have h2:0<=J.kW.number%2/\J.kW.number%2<2:=by omega
 have hS:=zh J.kW;have hW:=oF D b hD J.aM J.n (J.kW.number%2) hf (by omega) [dn J.kW] (by simp) (by simp;omega);refine QgQ (rs:=[_]) [4] [(1,[(4,.r 1),(9,.r 1),(13,.r 1),(15,.w [1]),(16,.s 2 [1])]),(2,[(3,.r 1),(5,.r 2),(7,.r 2),(10,.w [1,2])])] [(1,4),(2,6)] Tryz.func167 rfl (by simp[Tryz.ntmps167]) ?_;rw[show J.tell D=D.write (J.aM+J.kW.number%2) [dn J.kW]from rfl];simp[eY];refine bD hS ?_;simp[ag2];refine ak [0,1,2,3] hW (by simp) (by simp[Jr.kW]) (by simp[ay,ax]) (by simp[ay]) ?_;simp[Tryz.results167,ax];exact⟨[(6,7)],by simp⟩
theorem wS(J:Jr):aI Tryz.prog 168 [.obj 4 0] ⟨[(4,eY 0 5 J)],[(5,364,2)],6⟩ (.agg true []) ⟨[(4,eY 0 6 J.settled)],[(6,364,2)],7⟩:=by
 have key:aI Tryz.prog 168 [.obj 4 0] ⟨[(4,eY 0 5 J)],[(5,364,2)],6⟩ (.agg true []) ⟨[(4,{eY 0 6 J.settled with xs:=[.obj 0 0,.p (.int J.aM),.p (.int J.n),.p (.int J.settled.F0.number),.p (.int J.settled.F0.first),.p (.int J.settled.F0.at'),.p (.int J.next),.p (.int J.at'),.p (.int J.at'),.p (.bool false),.p .nil,.p (.int 0)]})],[],6⟩:=by
  refine QgQ (rs:=[]) [4] [(1,[(5,.r 1),(10,.r 1),(14,.r 1),(18,.s 1 [])]),(2,[(7,.r 1),(10,.s 1 []),(13,.s 1 []),(16,.s 1 []),(19,.s 1 [])])] [(1,4)] Tryz.func168 rfl (by simp[Tryz.ntmps168]) ?_;by_cases c:0<J.cnt
  ·simp[eY,c];exact⟨[],by simp[Jr.settled,c,Jr.kW]⟩
  ·simp[eY,c];exact⟨[],by simp[Jr.settled,c]⟩
 have h2:=qY (id:=4) (j:=10) 364 2 [] key rfl (.inr ⟨rfl,rfl⟩);exact v7 h2 _ (by simp[ay,Tb.aQ,Tb.bX,del,Jr.settled]) (by simp[ay,Tb.aQ,Tb.bX]) (by simp) (by simp[Tb.aQ,Tb.bX])
end Go.Av
