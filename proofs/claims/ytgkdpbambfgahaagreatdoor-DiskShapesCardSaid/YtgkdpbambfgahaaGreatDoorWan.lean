/- DiskShapes, part 14: what functions compute, and its plain law; no condition. -/
import Derived.Test.YtgkdpbambfgahaaGreatDoorWam
set_option linter.all false
set_option maxRecDepth 100000
set_option maxHeartbeats 64000000
namespace Go.Av
open Go.Proofs Go.Proofs.Tryz Go.aT Go.RowKit
theorem rz{P:Program}{fr:Fr}{cx:Cx}{x y:Code}{st:AS}{a:Act}{w:World}{n:Nat}{Q:Exit->Act->World->Prop}(S:List (Nat×AV))(T:Tb)(hm:P.follows .mixedOrders=true)(hfr:rW fr cx.fC)(hk:codeOk cx.cls cx.ot fr.n x=true)(hs:iq fr st a w)(h:aw P cx x st (rX cx (fun _:Unit=>True) (fun _=>S) (fun _=>T) (fun _=>0) 1 (fun _ _=>False)))(hy:∀a w,iq fr (Km S T) a w->y.wpIn Fence.wide n P Q a w):(Code.seq x y).wpIn Fence.wide n P Q a w:=by
 refine wpIn_seq (wpIn_mono (wpIn_wide.2 (gE hm hfr x _ _ hk h _ w hs)) ?_);rintro e a1 w1 ⟨st,hq,hs⟩;cases e with
 |normal=>
  obtain⟨_,_,_,rn,k1,k2⟩:=hq;exact hy _ _ (kM rn k1 k2 fr a1 w1 hfr hs)
 |_=>exact hq.elim
theorem Om(b:List UInt8):aq prog 223 [cy b,.int 64] (.fn (.func 304) [(cy b).ref,(PC.int 64).ref]):=by
 refine ai (ys:=[_]) [] [] [] func223 rfl ?_;simp[results223]
def y_(b:List UInt8)(k:Nat):List UInt8:=(b.drop (64*k)).take 64
def sG(c:List UInt8):dh:=c++List.replicate (64-c.length) 0
def ko(b:List UInt8)(pre:List Nat):Tb:=⟨[(0,⟨93,1,[.own (pre.length+1) ((pre.map fun k=>cy (sG (y_ b k))))]⟩)],[(pre.length+1,22,1)],pre.length+2⟩
def rA:Value->Nat->Value
 | .slice (some a) len _,k=>Tryz.piece a.block a.off len k
 |_,_=> .slice none 0 0
abbrev bvs(l:List UInt8):List Value:=l.map fun b=>Value.int .u8 b.toNat
theorem vq(l:List UInt8):cellsOf (bvs l)=bvs l:=tn (M:=fun _ _=>none) (by
 intro v hv;obtain⟨x,_,rfl⟩:=List.mem_map.1 hv;rfl)
theorem Gs{M:Mem}{u:Value}{b:List UInt8}(h:gO M u (cy b)):(∃sa c,u= .slice sa 0 c/\b=[])\/∃bb off cap,u= .slice (some ⟨bb,off,none⟩) b.length cap/\b.length<=cap/\cap<=maxLen/\At M bb off (bvs b):=by
 generalize hy:cy b=y at h;cases h with
 |cX=>
  left;injection hy with hy;have:b=[]:=by simpa[af]using hy
  exact⟨_,_,rfl,this⟩
 |rH ad=>
  left;injection hy with hy;have:b=[]:=by simpa[af]using hy
  exact⟨_,_,rfl,this⟩
 |@sl bb off n cap sz us xs hn hc hm hsz hu h1 hat h=>
  injection hy with hy;subst hy;right;obtain rfl:=jW b h;have:n=b.length:=by simpa using hn.symm
  subst this;rw[vq]at hat;exact⟨bb,off,cap,rfl,hc,hm,hat⟩
 |_=>cases hy
theorem Ko{M:Mem}{u:Value}{b:List UInt8}(h:gO M u (cy b))(k:Nat):gO M (rA u k) (cy (y_ b k)):=by
 rcases Gs h with⟨sa,c,rfl,rfl⟩|⟨bb,off,cap,rfl,hc,hm,hat⟩
 ·have e:y_ [] k=[]:=by simp[y_]
  rw[e];cases sa with
  |none=>exact .cX
  |some ad=>
   show gO M (.slice (some ⟨ad.block,ad.off+64*k,none⟩) (Nat.min 64 (0-64*k)) (Nat.min 64 (0-64*k))) _;have e0:Nat.min 64 (0-64*k)=0:=by rw[Nat.zero_sub];rfl
   rw[e0];exact .rH _
 ·have e0:(y_ b k).length=Nat.min 64 (b.length-64*k):=by simp[y_,Nat.min_def]
  show gO M (.slice (some ⟨bb,off+64*k,none⟩) (Nat.min 64 (b.length-64*k)) (Nat.min 64 (b.length-64*k))) _;refine .sl (us:=bvs (y_ b k)) (sz:=1) (by simp[e0]) (Nat.le_refl _) ?_ (by omega) ?_ ?_ ?_ (kK M _)
  ·have:Nat.min 64 (b.length-64*k)<=64:=Nat.min_le_left _ _;exact Nat.le_trans this (by decide)
  ·intro v hv;obtain⟨x,_,rfl⟩:=List.mem_map.1 hv;rfl
  ·intro v hv;rw[vq]at hv;obtain⟨x,_,rfl⟩:=List.mem_map.1 hv;rfl
  ·rw[vq];intro j v e;rw[Nat.add_assoc];refine hat _ _ ?_;simp only[bvs,y_,List.getElem?_map,List.getElem?_take,List.getElem?_drop]at e⊢;split at e
   ·exact e
   ·simp at e
theorem On(c:List UInt8)(h:c.length<=64):List.map AV.p (List.flatMap ga (List.take (c.length.min 64) (af c)))++List.drop (c.length.min 64) (bB 0 (List.replicate 64 (AV.p (PC.sc (Value.int .u8 0)))))=(af (sG c)).map AV.p:=by
 have e:c.length.min 64=c.length:=Nat.min_eq_left h;have e2:∀l,List.flatMap ga (af l)=af l:=fun l=>by
  induction l with
  |nil=>rfl
  |cons x l ih=>simpa[af]using ih
 rw[e,fY (by simp[af]),e2,eU (Nat.zero_le _),List.drop_replicate];simp[sG,af]
theorem Kq{tb aM:Tb}{id:Nat}{m:Option Nat}{xs:List AV}{c:List UInt8}(hl:lk id tb.bx=some ⟨5,1,xs⟩)(hx:xs=(af c).map AV.p)(hc:c.length=64)(ht:aM=⟨del id tb.bx,tb.rw,tb.nx+1⟩):yK tb aM [.view id 0 64 1 m] [cy c]:=by
 subst hx;refine⟨_,⟨_,hl,rfl,rfl,by omega,by simp[af,hc],?_,by simp[af,hc],fun y h=>cF _ y h,fun y h=>gW _ y h,ht⟩,rfl⟩;rw[qW,gV];exact fY (by simp[af,hc])
theorem Ir{w0:World}{M0:Mem}{F:Nat->Prop}{tb ts:Tb}{g:G}{W W1:World}(hW:aQ w0 M0 F tb g W)(hb:∀i o,lk i ts.bx=some o->lk i tb.bx=some o)(hr:∀i r,lk i ts.rw=some r->lk i tb.rw=some r)(hk:sA (Gt g ts) W W1):∀(k:Nat) (o:Obj),W.heap[k]?=some o->o.isCells=false->W1.heap[k]?=some o:=by
 intro k o hk' ho;refine(hk.block k (qQ hk') ?_).trans hk';rintro(⟨id,ob,c,e1,e2,hp⟩|⟨id,r,v,e1,e2,e3⟩)
 ·obtain⟨cur,_,_,⟨tt,fz,f4,_⟩,_⟩:=(hW.boxes _ _ (hb _ _ e1)).real e2 hp;rw[f4]at hk';cases hk';cases ho
 ·obtain⟨v',f1,f2⟩:=hW.rows _ r.1 r.2 (hr _ _ e1);rw[e2]at f1;injection f1 with f1;subst f1;rcases f2 with⟨ad,n,rfl⟩|⟨b',n,cap,cur,rfl,f3,⟨tt,fz,f4,_⟩,f5,f6,_⟩
  ·rw[gI]at e3;cases e3
  ·rw[de f6]at e3;injection e3 with e3;subst e3;rw[f4]at hk';cases hk';cases ho
theorem Kr(k:Nat):∀(b:List UInt8),b.length<=k->secs k b=(List.range ((b.length+63)/64)).map fun k=>sG (y_ b k):=by
 induction k with
 |zero=>intro b h;have:b=[]:=mB (by omega);subst this;rfl
 |succ k ih=>
  intro b h;unfold secs;split
  ·rename_i h;subst h;rfl
  ·rename_i hb;have:0<b.length:=List.length_pos_iff.2 hb;rw[ih _ (by simp;omega)];have e:(b.length+63)/64=((b.drop 64).length+63)/64+1:=by simp;omega
   rw[e,List.range_succ_eq_map,List.map_cons,List.map_map];congr 1
   ·simp only[sG,y_,Nat.mul_zero,List.drop_zero,List.length_take];congr 2;omega
   ·apply List.map_congr_left;intro j _;simp only[Function.comp,y_,List.drop_drop];congr 3;omega
theorem Oo(b:List UInt8):bn b=(List.range ((b.length+63)/64)).map fun k=>sG (y_ b k):=Kr _ b (Nat.le_refl _)
theorem Ee(b:List UInt8)(hb:b.length<=1000000000):aE prog 144 [.p (cy b)] ⟨[],[],0⟩ (.p (.sl ((bn b).map cy))) ⟨[],[],(b.length+63)/64+2⟩:=by
 refine⟨⟨Tryz.f144,func144,by kernel_rfl,by kernel_rfl⟩,fun g w vs F hw hvs=>(callsIn_wide (n:=3)).1 ?_⟩;refine callsIn_of_wp_marks func144 rfl trivial ?_ rfl;have hlen:=hvs.length
 let fr:Fr:=⟨w,g.M,F,g,18,[]⟩
 have hfr:rW fr 0:=fun i hi=>hw.fresh i (by omega);have oE:iq fr (me [.p (cy b)] ⟨[],[],0⟩) {tmps:=vs.toArray++Array.replicate (Tryz.f144.ntmps-vs.toArray.size) undef,defers:=[]} w:=by
  refine⟨g,G.le_refl g,hw,?_,?_,rfl⟩
  ·intro t;have:=m9 (g:=g) [.p (cy b)] vs 0 hvs t;simp only[Nat.sub_zero,Nat.zero_le,if_true]at this;show aX _ _ (jk [.p (cy b)] 0 t);by_cases ht:t<vs.length
   ·have e:(vs.toArray++Array.replicate (Tryz.f144.ntmps-vs.toArray.size) undef).getD t undef=(vs[t]?).getD undef:=by
     simp[Array.getElem?_append,ht]
    rw[e];exact this
   ·rw[o4 [.p (cy b)] 0 t (by simp at hlen⊢;omega)];exact .any _
  ·simp[fr,hlen,ntmps144]
 refine rz (cx:=⟨[],[],[],0,[]⟩) [(0,.p (cy b))] ⟨[],[],0⟩ mixed hfr (by kernel_rfl) oE ?_ ?_
 ·simp;exact⟨[],by simp,by simp⟩
 clear oE;intro a w1 oE;refine rz (cx:=⟨[],[],[],0,[]⟩) [(0,.p (cy b)),(3,.obj 0 0)] ⟨[(0,⟨93,1,[.p .nil]⟩)],[],1⟩ mixed hfr (by kernel_rfl) oE ?_ ?_
 ·simp;exact⟨[(0,0)],by simp,by simp⟩
 clear oE;intro a w1 oE;refine wpIn_seq ?_;refine rz (cx:=⟨[],[],[],0,[]⟩) [(0,.p (cy b)),(3,.obj 0 0),(7,.p (.fn (.func 304) [(cy b).ref,(PC.int 64).ref]))] ⟨[(0,⟨93,1,[.p .nil]⟩)],[],1⟩ mixed hfr (by kernel_rfl) oE ?_ ?_
 ·have hC:=Om b;simp;refine bS hC ?_;simp;exact⟨[(0,0)],by simp,by simp⟩
 clear oE;intro a w1 oE;refine wpIn_block ?_;have oE:iq fr (Km [(0,.p (cy b)),(3,.obj 0 0),(7,.p (.fn (.func 304) [(cy b).ref,(PC.int 64).ref]))] (ko b [])) a w1:=(ja (fC:=0) (st:=Km [(0,.p (cy b)),(3,.obj 0 0),(7,.p (.fn (.func 304) [(cy b).ref,(PC.int 64).ref]))] ⟨[(0,⟨93,1,[.p .nil]⟩)],[],1⟩) 0 0 22 1 ⟨93,1,[.p .nil]⟩ [] rfl (.inr ⟨rfl,rfl⟩)) fr a w1 hfr oE;obtain⟨g2,h0,h1,h2,h3,h4⟩:=oE;have hv7:aX g2 (a.tmps.getD 7 undef) (.p (.fn (.func 304) [(cy b).ref,(PC.int 64).ref])):=h2 7;have hv3:aX g2 (a.tmps.getD 3 undef) (.obj 0 0):=h2 3;have XB:aQ w g.M F (ko b []) g2 w1:=h1;obtain⟨Bs,os,Bn,on,u,hu7,SM,HK,hBn⟩:∃Bs os Bn on u,a.tmps.getD 7 undef= .func (.func 304) #[] #[.pointer (some ⟨Bs,os,none⟩),.pointer (some ⟨Bn,on,none⟩)]/\g2.M Bs os=some u/\gO g2.M u (cy b)/\g2.M Bn on=some (.int .i64 64):=by
  generalize a.tmps.getD 7 undef=u7 at hv7;cases hv7 with
  |p h=>
   cases h with
   |fn hs=>
    cases hs with
    |cons r1 hs=>
     cases hs with
     |cons r2 hs=>
      cases hs;cases r1 with
      |ref at1 HK=>
       cases r2 with
       |ref at2 Jy=>
        cases Jy with
        |sc=>
         refine⟨_,_,_,_,_,rfl,at1 0 _ ?_,HK,at2 0 _ rfl⟩;rcases Gs HK with⟨sa,c,rfl,_⟩|⟨bb,off,cap,rfl,_⟩<;>rfl
 have hseq:SeqStopsK Fence.wide (3-1) prog 304 #[.pointer (some ⟨Bs,os,none⟩),.pointer (some ⟨Bn,on,none⟩)] (fun k:Nat=>#[rA u k]) (fun A B=>(∀v,A.cell? ⟨Bs,os,none⟩=some v->B.cell? ⟨Bs,os,none⟩=some v)/\∀v,A.cell? ⟨Bn,on,none⟩=some v->B.cell? ⟨Bn,on,none⟩=some v) (fun xs=>xs=List.range ((b.length+63)/64)) (fun _=>True) ((b.length+63)/64) w1:=by
  intro l J Jx W hW hJA al1 hY hJ0;have c1:=(hW.cell (p:=⟨Bs,os,none⟩) (XB.holds.lt SM)).trans (XB.holds _ _ _ SM);have c2:=(hW.cell (p:=⟨Bn,on,none⟩) (XB.holds.lt hBn)).trans (XB.holds _ _ _ hBn);have hz:∀(sa:Option Addr) c,u= .slice sa 0 c->b=[]->CallsIn Fence.wide (3-1) prog 304 (#[.func (.yield l) #[] #[]]++#[.pointer (some ⟨Bs,os,none⟩),.pointer (some ⟨Bn,on,none⟩)]) W fun e W'=>(∃v,e= .returned v)/\((∃xs,(xs=List.range ((b.length+63)/64))/\J xs W')\/(∃pre,True/\Jx pre W')):=by
   intro sa c e hb0;rw[e]at c1;refine(Tryz.CA (3-1) l Bs os Bn on c sa J W c1 hJ0).mono ?_;rintro e W' ⟨he,hj⟩;exact⟨he,.inl ⟨[],by simp[hb0],hj⟩⟩
  rcases Gs HK with⟨sa,c,e,hb0⟩|⟨bb,off,cap,e,hc,_⟩
  ·exact hz _ _ e hb0
  ·subst e;refine(Tryz.Ef (3-1) (by omega) l Bs os Bn on bb off b.length cap hb hc J Jx _ (fun A B h=>h) ?_ W hJA c1 c2 hJ0).mono ?_
   ·intro pre k W1 hj hl;exact hY pre k W1 hj hl
   ·rintro e W' ⟨he,hj|⟨pre,hj⟩⟩
    ·exact⟨he,.inl hj⟩
    ·exact⟨he,.inr ⟨pre,trivial,hj⟩⟩
 have hKr:∀{A B:World} {row:Option Nat},A.grownBy B row->(∀r,row=some r->∃o:Obj,A.heap[r]?=some o/\o.isCells=false)->(∀v,A.cell? ⟨Bs,os,none⟩=some v->B.cell? ⟨Bs,os,none⟩=some v)/\∀v,A.cell? ⟨Bn,on,none⟩=some v->B.cell? ⟨Bn,on,none⟩=some v:=fun hg hr=>⟨fun v h=>cell_kept h hg hr,fun v h=>cell_kept h hg hr⟩;refine wpIn_rangeFunc_ownG (F:=Fence.wide) rfl (by omega) (gf:=304) (lb:=#[.pointer (some ⟨Bs,os,none⟩),.pointer (some ⟨Bn,on,none⟩)]) hu7 trivial (enters_of func304 (by kernel_rfl) rfl) hseq (fun h k=>⟨fun v e=>k.1 v (h.1 v e),fun v e=>k.2 v (h.2 v e)⟩) (fun W l o o' hl ho hc _=>hKr (grownBy_putObj' W l o') (fun r e=>by cases e;exact⟨o,ho,hc⟩)) (Below.refl _ _) (fun _=>rfl) (fun pre W=>∃g',g2.le g'/\aQ w g.M F (ko b pre) g' W) (fun _ _ _=>False) (fun s A B row ⟨g',hle,h⟩ hg hr=>⟨g',hle,aQ.grown h hg (fun r e=>⟨Nat.le_trans XB.keep.size (hr r e).1,(hr r e).2⟩)⟩) (fun _ _ _ _ _ hs _ _=>hs) ⟨g2,G.le_refl _,XB⟩ (fun x=>{tmps:=(a.tmps.setIfInBounds 8 (rA u x)).setIfInBounds 4 (rA u x),defers:=[]}) ?assign ?body ?done ?stop
 case stop=>
  rintro D c pre W _ _ h _;exact h.elim
 case assign=>
  intro l x W K hK;have hsz:a.tmps.size=18:=h3;refine wpIn_region_list ?_;simp[wpListIn,Region.wanted,Oper.wpIn,Oper.semAt,execOp,Oper.uponIn,Exit.then,Act.put,Act.eval,Oper.about,hsz];exact hK
 case body=>
  rintro l pre x W ⟨g',hle,hW⟩ hlt;have hsz:a.tmps.size=18:=h3;have hN:pre.length<20000000:=by omega
  have yj:(pre.map fun k=>cy (sG (y_ b k))).length<20000000:=by simpa using hN
  have hx:(y_ b x).length<=64:=by simp[y_];omega
  let fr':Fr:=⟨W,g'.M,Gt g' (ko b pre),g',18,[]⟩
  have aja:rW fr' (pre.length+2):=fun i hi=>hW.fresh i hi;have hP:aQ W g'.M (Gt g' (ko b pre)) (ko b pre) g' W:=hW.part (by simp[ay,ko]) (by simp[ay,ko]) rfl;have hpr:gO g'.M (rA u x) (cy (y_ b x)):=Ko (HK.mono hle.M) x;generalize rA u x=up at hpr;have oE:iq fr' (Km [(3,.obj 0 0),(4,.p (cy (y_ b x)))] (ko b pre)) {tmps:=(a.tmps.setIfInBounds 8 up).setIfInBounds 4 up,defers:=[]} W:=by
   refine⟨g',G.le_refl _,hP,?_,by simp[fr',hsz],rfl⟩;intro t;show aX g' _ (uf _ t);simp only[uf,u9];split
   ·rename_i e;subst e;have:=hv3.mono hle;simpa[Array.getElem?_setIfInBounds]using this
   ·split
    ·rename_i e;subst e;simpa[Array.getElem?_setIfInBounds,hsz]using aX.p hpr
    ·exact .any _
  refine wpIn_mono (ru (fr:=fr') (cx:=⟨[],[],[],pre.length+2,[]⟩) _ _ (rX ⟨[],[],[],pre.length+2,[]⟩ (fun _:Unit=>True) (fun _=>[]) (fun _=>ko b (pre++[x])) (fun _=>0) 1 (fun _ _=>False)) (by kernel_rfl) (by kernel_rfl) (fun _ h=>h) ?_ _ W oE) ?_
  ·generalize hcc:y_ b x=c at hx;have adR:=On c hx;have hpl:(sG c).length=64:=by simp[sG];omega
   have Is:∀y∈pre.map (fun k=>cy (sG (y_ b k))),y.width=1:=by
    intro y hy;obtain⟨k,_,rfl⟩:=List.mem_map.1 hy;rfl
   simp only[ko,List.map_append,List.map_cons,List.map_nil,hcc,dU,List.length_cons,List.length_nil];have hyl:(pre.map (fun k=>cy (sG (y_ b k)))).length=pre.length:=by simp
   generalize pre.map (fun k=>cy (sG (y_ b k)))=ys at yj Is hyl;generalize pre.length=q at hN hyl;simp;refine⟨by decide,fun y h=>cF _ y h,fun y h=>gW _ y h,?_⟩;refine Ce [cy (sG c)] ⟨[(0,⟨93,1,[.own (q+1) ys]⟩)],[(q+1,22,1)],q+4⟩ (by simp[bt]) (Kq (by simp[lk]) adR hpl (by simp[del])) (by simp) (by simp) ?_;simp;refine⟨Is,by omega,by omega,?_⟩;exact aB [(q+2,q+4)] (by simp)
  ·rintro e a1 W1 ⟨st,hq,hs⟩;cases e with
   |normal=>
    obtain⟨_,_,_,rn,k1,k2⟩:=hq;obtain⟨g3,j0,j1,j2,j3,j4⟩:=kM rn k1 k2 fr' a1 W1 aja hs;have hB:=hW.back (ts:=ko b pre) (by simp[ay,ko]) (by simp[ay,ko]) j0 j1;have hF:=Ir hW (fun _ _ h=>h) (fun _ _ h=>h) j1.keep;refine⟨⟨j1.keep.size,fun k o _ hk ho=>hF k o hk ho⟩,⟨fun v e=>?_,fun v e=>?_⟩,g3,hle.trans j0,?_⟩
    ·rw[hW.holds _ _ _ (hle.M _ _ _ SM)]at e;rw[<-e];exact hB.holds _ _ _ (j0.M _ _ _ (hle.M _ _ _ SM))
    ·rw[hW.holds _ _ _ (hle.M _ _ _ hBn)]at e;rw[<-e];exact hB.holds _ _ _ (j0.M _ _ _ (hle.M _ _ _ hBn))
    ·simpa[Tb.merge,ko,b_,del]using hB
   |_=>exact hq.elim
 case done=>
  rintro D ys W hD rfl ⟨g',hle,hW⟩ hK;have hsz:a.tmps.size=18:=h3;have hds:a.defers=[]:=h4;have hl0:(List.range ((b.length+63)/64)).length=(b.length+63)/64:=List.length_range;have FD:=Oo b
  let fr7:Fr:=⟨W,g'.M,Gt g' (ko b (List.range ((b.length+63)/64))),g',18,[{target:= .collected D,args:=#[]}]⟩
  have ajb:rW fr7 ((b.length+63)/64+2):=fun i hi=>hW.fresh i (by rw[<-hl0]at hi;exact hi);have hP:aQ W g'.M (Gt g' (ko b (List.range ((b.length+63)/64)))) (ko b (List.range ((b.length+63)/64))) g' W:=hW.part (by simp[ay,ko]) (by simp[ay,ko]) rfl;have adS:iq fr7 (Km [(3,.obj 0 0)] (ko b (List.range ((b.length+63)/64)))) {a with defers:={target:= .collected D,args:=#[]}::a.defers} W:=by
   refine⟨g',G.le_refl _,hP,?_,hsz,by simp[fr7,hds]⟩;intro t;show aX g' _ (uf _ t);simp only[uf,u9];split
   ·rename_i e;subst e;exact hv3.mono hle
   ·exact .any _
  simp only[Exit.inBlock,Exit.then];refine rz (cx:=⟨[],[],[],(b.length+63)/64+2,[]⟩) [(2,.own ((b.length+63)/64+1) ((bn b).map cy))] (ko b (List.range ((b.length+63)/64))) mixed ajb (by kernel_rfl) adS ?_ ?_
  ·have ajc:(bn b).map cy=(List.range ((b.length+63)/64)).map fun k=>cy (sG (y_ b k)):=by rw[FD,List.map_map];rfl
   rw[ajc];simp only[ko,hl0];generalize(List.range ((b.length+63)/64)).map (fun k=>cy (sG (y_ b k)))=ys;generalize(b.length+63)/64=q;simp;exact⟨[],by simp,by simp⟩
  ·intro a3 W3 hs3;refine wpIn_ret ?_;obtain⟨g3,j0,j1,j2,j3,j4⟩:=hs3;have hB:=hW.back (ts:=ko b (List.range ((b.length+63)/64))) (by simp[ay,ko]) (by simp[ay,ko]) j0 j1;have XC:=Ir hW (ts:=ko b (List.range ((b.length+63)/64))) (fun _ _ h=>h) (fun _ _ h=>h) j1.keep D _ hK rfl;have hg4:=grownBy_putObj' W3 D (.deferred none);have Ly:=hB.grown hg4 (fun r e=>by cases e;exact⟨Nat.le_trans XB.keep.size hD,_,XC,rfl⟩);have yf:aX g3 (a3.tmps.getD 2 undef) (.own ((b.length+63)/64+1) ((bn b).map cy)):=j2 2;show LeavesInM Fence.wide 3 prog Tryz.f144 a3.tmps _ a3.defers .returning W3;rw[j4];refine⟨by simp,.inl ⟨D,_,rfl,run_takeDeferred XC,?_⟩⟩;refine⟨_,results_tmp rfl _ _ _,_,g3,rfl,G.le.trans h0 (hle.trans j0),?_,?_⟩
   ·refine Ly.sub (fun i o e=>by simp[lk]at e) (fun i r e=>by simp[lk]at e) ?_;simp[Tb.merge,ko]
   ·generalize a3.tmps.getD 2 undef=v2 at yf⊢;cases yf with
    |own e hr=>exact .p hr
theorem sD(b:List UInt8)(hb:b.length<=1000000000):aq prog 144 [cy b] (.sl ((bn b).map cy)):=bI (xs:=[cy b]) (Ee b hb) ⟨_,rfl,.inl rfl⟩
theorem Oq(k:Nat)(b:List UInt8):∀s∈secs k b,s.length=64:=by
 induction k generalizing b with
 |zero=>intro s h;simp[secs]at h
 |succ k ih=>
  intro s h;unfold secs at h;split at h
  ·simp at h
  ·rcases List.mem_cons.1 h with rfl|h
   ·simp;omega
   ·exact ih _ s h
theorem mS(b:List UInt8):∀s∈bn b,s.length=64:=Oq _ b
theorem Ot(k:Nat)(b:List UInt8)(h:b.length<=k):(secs k b).length=(b.length+63)/64:=by
 induction k generalizing b with
 |zero=>have:b=[]:=mB (by omega);subst this;rfl
 |succ k ih=>
  unfold secs;split
  ·rename_i h;subst h;rfl
  ·rename_i hb;have:0<b.length:=List.length_pos_iff.2 hb;rw[List.length_cons,ih _ (by simp;omega)];simp;omega
theorem eO(b:List UInt8):(bn b).length=(b.length+63)/64:=Ot _ b (Nat.le_refl _)
end Go.Av
namespace Go.aT
def lX(D:aN)(a kind:Int)(b:List UInt8):aN×Int:=if(iN kind b).2=0 then D.write a (bn (iN kind b).1)else(D,(iN kind b).2)
def fZ(D:aN)(a:Int):aN×Nat×List UInt8×Int:=if(D.read a 8).2.2=0 then((D.read a 8).1,mU (D.read a 8).2.1.flatten)else((D.read a 8).1,0,[],(D.read a 8).2.2)
end Go.aT
namespace Go.Av
open Go.Proofs Go.Proofs.Tryz Go.aT
theorem BB(kind:Int)(b:List UInt8):(iN kind b).1.length<=512:=by
 unfold iN;split
 ·simp
 ·split
  ·simp
  ·rw[gH];simp;omega
theorem Le(D:aN)(b:Nat)(hD:dO b D)(a kind:Int)(ha:-9223372036854775808<=a/\a<=9223372036854775807)(hk:-9223372036854775808<=kind/\kind<=9223372036854775807)(hb:b<=100000000000)(L:List (List UInt8))(hL:L.flatten.length<=1000000000)(hL2:L.length<=1000000000):aE prog 433 [.obj 0 0,.p (.int a),.p (.int kind),.p (.sl (L.map cy))] ⟨cE 3 D,cn 3,4⟩ (.p (.int (lX D a kind L.flatten).2)) ⟨cE 4 (lX D a kind L.flatten).1,cn 4,5⟩:=by
 have hP:=SQ kind hk L hL hL2;have hlen:=BB kind L.flatten;refine ah (rs:=[_]) [] [] [] func433 rfl ?_;unfold lX;generalize iN kind L.flatten=p at*;obtain⟨x,e⟩:=p;simp only at*;simp;refine bS hP ?_;by_cases c:e=0
 ·subst c;have hc:=eO x;rw[if_pos rfl];simp;refine bS (sD x (by omega)) ?_;simp;refine aA (q_ D b hD a ha (bn x) (by omega) (by omega)) (by simp) (by simp[ay]) (by simp[ay]) rfl ?_;simp[results433];exact⟨[],by simp[aj]⟩
 ·have c':(e !=0)=true:=by simpa using c
  rw[if_neg c];simp[c',results433];exact⟨[(4,3)],by simp[aj]⟩
theorem Dl(L:List dh)(h:∀s∈L,s.length=64):L.flatten.length=L.length*64:=by
 induction L with
 |nil=>rfl
 |cons s L ih=>rw[List.flatten_cons,dU,ih (fun s hs=>h s (by simp[hs])),h s (by simp),List.length_cons];omega
theorem AB(D:aN)(b:Nat)(hD:dO b D)(a n:Int):(∀s∈(D.read a n).2.1,s.length=64)/\(D.read a n).2.1.length<=65536:=by
 unfold aN.read;have:=hD.top;have:=hD.len;split
 ·split
  ·exact⟨fun s hs=>hD.now s (List.mem_of_mem_drop (jH hs)),by simp;omega⟩
  ·simp
 ·simp
theorem Mg(D:aN)(b:Nat)(hD:dO b D)(a:Int)(ha:-9223372036854775808<=a/\a<=9223372036854775807):aE prog 430 [.obj 0 0,.p (.int a)] ⟨cE 3 D,cn 3,4⟩ (.agg true [.p (.int (fZ D a).2.1),.p (cy (fZ D a).2.2.1),.p (.int (fZ D a).2.2.2)]) ⟨cE 4 (fZ D a).1,cn 4,5⟩:=by
 have hR:=CL D b hD a 8 ha;obtain⟨r1,r2⟩:=AB D b hD a 8;refine ah (rs:=[_,_,_]) [] [] [] func430 rfl ?_;unfold fZ;generalize D.read a 8=p at*;obtain⟨E,l,e⟩:=p;simp only at*;have hf:=Dl l r1;simp;refine aA hR (by simp) (by simp[ay]) (by simp[ay]) rfl ?_;by_cases c:e=0
 ·subst c;rw[if_pos rfl];simp;refine bS (Gy l (by omega) (by omega)) ?_;simp;refine bS (Kt l.flatten (by omega)) ?_;simp[results430];exact⟨[],by simp[aj]⟩
 ·have c':(e !=0)=true:=by simpa using c
  rw[if_neg c];simp[c',results430,af];exact⟨[],by simp[aj]⟩
end Go.Av
namespace Go.aT
def wF(m:Int):UInt8:=UInt8.ofNat (m%256).toNat
def aC(n:Int)(size:Nat):List UInt8:=(List.range size).map fun j=>wF (n/2^(8*(size-1-j)))
theorem aW(n:Int)(k:Nat):(aC n k).length=k:=by simp[aC]
end Go.aT
namespace Go.Av
open Go.Proofs Go.Proofs.Tryz Go.aT
theorem Ou{fC:Nat}{st:AS}(t:Nat)(el:TypeId)(s:Nat)(h:isNone (st.sl t)):st.le fC ⟨u9 st.sl t (.view st.tb.nx 0 0 s none),st.tb.aS ⟨el,s,[]⟩⟩:=by
 rintro fr a w hf ⟨g,h0,h1,h2,h3,h4⟩;obtain⟨ad,hv,uV⟩:∃ad,a.tmps.getD t undef= .slice ad 0 0/\(ad=none\/∃a',ad=some a'):=by
  have:=h2 t;generalize a.tmps.getD t undef=v at this⊢;unfold isNone at h;split at h
  ·rename_i e;rw[e]at this;cases this with
   |full hr=>cases hr with
    |cX=>exact⟨none,rfl,.inl rfl⟩
    |rH a=>exact⟨_,rfl,.inr ⟨_,rfl⟩⟩
    |sl hn _ _ _ _ _ _ hs=>have:=hs.length;simp at this;rw[this]at hn;simp at hn;subst hn;exact⟨_,rfl,.inr ⟨_,rfl⟩⟩
  ·rename_i e;rw[e]at this;have:=aZ this;cases this;exact⟨none,rfl,.inl rfl⟩
  ·exact h.elim
 refine⟨_,h0.trans (h1.mD 0 0),h1.CD el s,fun u=>?_,h3,h4⟩;simp only[u9];split
 ·rename_i e;subst e;rw[hv];have:=aX.view (g:=g.dw st.tb.nx 0 0) (id:=st.tb.nx) (b:=0) (c:=0) (o:=0) (n:=0) (s:=s) (a:=ad) (m:=none) (by simp[G.dw]) (by omega) (by unfold maxLen;omega) (.void rfl uV) (by simp);simpa using this
 ·exact(h2 u).mono (h1.mD 0 0)
theorem mX(m:Int):IntKind.u8.wrap m=((wF m).toNat:Int):=by
 have e1:IntKind.u8.bits=8:=rfl;have e2:IntKind.u8.signed=false:=rfl;unfold IntKind.wrap wF;simp only[e1,e2,Bool.false_and,Bool.false_eq_true,if_false];rw[UInt8.toNat_ofNat'];omega
theorem zb(n:Int)(size k:Nat)(h:k<size):(aC n size).take (k+1)=(aC n size).take k++[wF (n/2^(8*(size-1-k)))]:=by
 rw[iA (by rw[aW];exact h)];congr 2;simp[aC]
theorem jv(nx:Nat)(pre tl:List UInt8)(arg:AV)(bx:List (Nat×Ob))(id:Nat)(ha:arg= .view id 0 pre.length 1 none/\bx=[(id,eG (pre++tl))]\/arg= .p .nil/\pre=[]/\bx=[])(hp:pre.length<=1000000)(n:Int)(size:Nat)(hs:size<=8):aE prog 256 [arg,.p (.int n),.p (.int size)] ⟨bx,[],nx⟩ (.view nx 0 (pre.length+size) 1 none) ⟨[(nx,eG (pre++aC n size))],[],nx+1⟩:=by
 refine ah (rs:=[_]) [] [] [] func256 rfl ?_;have w0:IntKind.i64.wrap ((size:Int)-1)=(size:Int)-1:=aD;rcases ha with⟨rfl,rfl⟩|⟨rfl,rfl,rfl⟩
 ·simp[w0];refine aL (fun k:Nat=>k<=size) (fun k=>[(0,.view nx 0 (pre.length+k) 1 none),(1,.p (.int n)),(7,.p (.int ((size:Int)-1-k)))]) (fun k=>⟨[(nx,eG (pre++(aC n size).take k))],[],nx+1⟩) (fun k=>size-k) 0 (by simp) _ (AS.le_refl _ _) (aB [(nx,id)] (by simp[af])) ?_;intro k hk;by_cases ck:k<size
  ·have c1:(k:Int)<=(size:Int)-1:=by omega
   have w1:IntKind.i64.wrap ((size:Int)-1-k-1)=(size:Int)-1-((k+1:Nat):Int):=by rw[aD];omega
   have w2:IntKind.i64.wrap (8*((size:Int)-1-k))=8*((size:Int)-1-k):=aD;have w3:IntKind.u8.wrap (n.fdiv (2^min (8*((size:Int)-1-k)).toNat IntKind.i64.bits))=((wF (n/2^(8*(size-1-k)))).toNat:Int):=by
    have e:min (8*((size:Int)-1-k)).toNat IntKind.i64.bits=8*(size-1-k):=by
     have e2:IntKind.i64.bits=64:=rfl;rw[e2];omega
    rw[e,Int.fdiv_eq_ediv_of_nonneg _ (Int.le_of_lt (Int.pow_pos (by omega))),mX]
   have hts:=zb n size k ck;have hl:=aW n size;have XD:List.take (pre.length+k) (List.map AV.p (af (pre++List.take k (aC n size))))=List.map AV.p (af (pre++List.take k (aC n size))):=fY (by simp[af];omega);simp[c1,w1,w2,w3,XD];refine⟨by omega,by omega,by omega,by omega,k+1,by omega,by omega,aB [(nx,nx+1)] ?_⟩;rw[hts];simp[af,Nat.add_assoc]
  ·obtain rfl:k=size:=by omega
   have c1:¬(k:Int)<=(k:Int)-1:=by omega
   have hl:=aW n k;have ht:(aC n k).take k=aC n k:=fY (by omega);simp[c1,results256,ht];exact⟨[],by simp⟩
 ·simp[w0];refine aL (fun k:Nat=>k<=size) (fun k=>[(0,.view nx 0 (([]:List UInt8).length+k) 1 none),(1,.p (.int n)),(7,.p (.int ((size:Int)-1-k)))]) (fun k=>⟨[(nx,eG ([]++(aC n size).take k))],[],nx+1⟩) (fun k=>size-k) 0 (by simp) _ (Ou 0 5 1 (by simp[isNone])) (ak (by simp[af])) ?_;generalize hpre:([]:List UInt8)=pre at*;intro k hk;by_cases ck:k<size
  ·have c1:(k:Int)<=(size:Int)-1:=by omega
   have w1:IntKind.i64.wrap ((size:Int)-1-k-1)=(size:Int)-1-((k+1:Nat):Int):=by rw[aD];omega
   have w2:IntKind.i64.wrap (8*((size:Int)-1-k))=8*((size:Int)-1-k):=aD;have w3:IntKind.u8.wrap (n.fdiv (2^min (8*((size:Int)-1-k)).toNat IntKind.i64.bits))=((wF (n/2^(8*(size-1-k)))).toNat:Int):=by
    have e:min (8*((size:Int)-1-k)).toNat IntKind.i64.bits=8*(size-1-k):=by
     have e2:IntKind.i64.bits=64:=rfl;rw[e2];omega
    rw[e,Int.fdiv_eq_ediv_of_nonneg _ (Int.le_of_lt (Int.pow_pos (by omega))),mX]
   have hts:=zb n size k ck;have hl:=aW n size;have XD:List.take (pre.length+k) (List.map AV.p (af (pre++List.take k (aC n size))))=List.map AV.p (af (pre++List.take k (aC n size))):=fY (by simp[af];omega);simp[c1,w1,w2,w3,XD];refine⟨by omega,by omega,by omega,by omega,k+1,by omega,by omega,aB [(nx,nx+1)] ?_⟩;rw[hts];simp[af,Nat.add_assoc]
  ·obtain rfl:k=size:=by omega
   have c1:¬(k:Int)<=(k:Int)-1:=by omega
   have hl:=aW n k;have ht:(aC n k).take k=aC n k:=fY (by omega);simp[c1,results256,ht];subst hpre;exact⟨[],by simp⟩
end Go.Av
namespace Go.aT
def cq(b:List UInt8):Int:=IntKind.i64.wrap (Go.Av.jA b:Int)
end Go.aT
namespace Go.Av
open Go.Proofs Go.Proofs.Tryz Go.aT
theorem tY(m:Int):IntKind.i64.wrap m%18446744073709551616=m%18446744073709551616:=by
 rw[IntWalk.i64_left];unfold RowKit.wrap64;omega
theorem Ic{m k:Int}(h:m%18446744073709551616=k%18446744073709551616):IntKind.i64.wrap m=IntKind.i64.wrap k:=by
 rw[IntWalk.i64_left,IntWalk.i64_left];unfold RowKit.wrap64;omega
theorem yL(V x:Nat)(hx:x<256):bits .or .i64 (IntKind.i64.wrap (IntKind.i64.wrap (V:Int)*2^min 8 IntKind.i64.bits)) (x:Int)=IntKind.i64.wrap ((V*256+x:Nat):Int):=by
 have p:(2:Int)^min 8 IntKind.i64.bits=256:=rfl;rw[p];have e1:IntKind.i64.wrap (IntKind.i64.wrap (V:Int)*256)=IntKind.i64.wrap ((V*256:Nat):Int):=Ic (by
  have:=tY (V:Int);rw[Int.mul_emod,this,<-Int.mul_emod];push_cast;rfl)
 rw[e1];unfold bits;have b:IntKind.i64.bits=64:=rfl;rw[b];simp only[BitVec.toNat_or,BitVec.toNat_ofInt,BitVec.ofInt_natCast,BitVec.toNat_ofNat];have e2:(IntKind.i64.wrap ((V*256:Nat):Int)%((2^64:Nat):Int)).toNat=(V%72057594037927936)*256:=by
  have:=tY ((V*256:Nat):Int);have xD:((2^64:Nat):Int)=18446744073709551616:=rfl;rw[xD,this];omega
 rw[e2,Nat.mod_eq_of_lt (by omega:x<2^64)];have h:=Nat.shiftLeft_add_eq_or_of_lt (i:=8) (b:=x) (by omega) (V%72057594037927936);rw[Nat.shiftLeft_eq]at h;have h2:(V%72057594037927936)*256|||x=(V%72057594037927936)*256+x:=h.symm;rw[h2];exact Ic (by omega)
theorem qX(b:List UInt8)(hb:b.length<=1000000000):aq prog 255 [cy b] (.int (cq b)):=by
 refine ai (ys:=[_]) [] [] [] func255 rfl ?_;simp;have w00:IntKind.i64.wrap 0=0:=aD;refine bg (fun k:Nat=>k<=b.length) (fun k=>[(6,.p (cy b)),(7,.p (.int b.length)),(8,.p (.int k)),(3,.p (.int (cq (b.take k))))]) (fun k=>b.length-k) 0 (by simp) (ak (by simp[cq,jA,w00])) ?_;intro k hk;by_cases ck:k<b.length
 ·have w1:=jq k;have wx:IntKind.i64.wrap (b[k].toNat:Int)=(b[k].toNat:Int):=bf (by omega) (by have:=b[k].toNat_lt;omega);have ho:=yL (jA (b.take k)) b[k].toNat (b[k].toNat_lt);have hts:cq (b.take (k+1))=IntKind.i64.wrap ((jA (b.take k)*256+b[k].toNat:Nat):Int):=by
   unfold cq;rw[iA ck,kE]
  rw[<-hts]at ho;change bits .or .i64 (IntKind.i64.wrap (cq (b.take k)*2^min 8 IntKind.i64.bits)) _=_ at ho;simp[ck,w1,wx,ho,cH];exact⟨k+1,by omega,by omega,ak (by simp)⟩
 ·obtain rfl:k=b.length:=by omega
  simp[results255]
theorem JZ(b:List UInt8)(z:Nat):(af b).map AV.p++List.replicate z (AV.p (PC.sc (.int .u8 0)))=(af (b++List.replicate z 0)).map AV.p:=by simp[af]
def cW(b:List UInt8):List UInt8:=b++List.replicate (64-b.length) 0
theorem ox(b:List UInt8)(h:b.length<=64):(cW b).length=64:=by simp[cW];omega
theorem qY(nx id:Nat)(hid:id<nx)(b:List UInt8)(n:Nat)(hn:n=b.length)(hb:b.length<64):aE prog 179 [.view id 0 n 1 none] ⟨[(id,eG b)],[],nx⟩ (.view nx 0 64 1 none) ⟨[(nx,eG (cW b))],[],nx+1⟩:=by
 subst hn;refine ah (rs:=[_]) [] [] [] func179 rfl ?_;obtain⟨z,hz⟩:∃z:Nat,64-b.length=z:=⟨_,rfl⟩;have wz:IntKind.i64.wrap (64-(b.length:Int))=(z:Int):=by rw[aD];omega
 unfold cW;rw[hz];have ht:List.take b.length (List.map AV.p (af b))=List.map AV.p (af b):=fY (by simp[af]);have hz2:b.length+z=64:=by omega
 simp[wz,results179,ht,hz2];have hr:=JZ b z;refine⟨by omega,[],?_⟩;simp[hr]
theorem yS(nx:Nat):aE prog 179 [.p .nil] ⟨[],[],nx⟩ (.view nx 0 64 1 none) ⟨[(nx,eG (cW []))],[],nx+1⟩:=by
 refine ah (rs:=[_]) [7] [] [] func179 rfl ?_;have wz:IntKind.i64.wrap 64=64:=aD;simp[wz,results179];exact⟨[],by simp[cW,af]⟩
theorem tT{f:FuncId}{xs:List AV}{tb aM:Tb}{id n:Nat}{b:List UInt8}(h:aE prog f xs tb (.view id 0 n 1 none) aM)(hl:lk id aM.bx=some (eG b))(hn:n=b.length):aE prog f xs tb (.p (cy b)) ⟨del id aM.bx,aM.rw,aM.nx+1⟩:=by
 subst hn;exact sY h hl rfl (by omega) (by simp[af]) (by simp only[Nat.mul_one];rw[qW,gV];exact fY (by simp[af])) (by simp[af]) (cF b) (gW b)
end Go.Av
namespace Go.aT
structure Mk where
 number:Int
 first:Int
 at':Int
def bX(m:Mk):dh:=(v7 (aC m.number 8++84::(aC m.first 8++aC m.at' 4))).take 56++aC m.number 8
where v7 (b:List UInt8):List UInt8:=b++List.replicate (64-b.length) 0
def mY(b:List UInt8)(rest n:Int):Mk×Bool:=let m:Mk:=⟨cq (b.take 8),cq ((b.drop 9).take 8),cq ((b.drop 17).take 4)⟩;(m,m.number==cq (b.drop 56)&&!(m.number==0)&&(m.number%2==rest)&&(b.getD 8 0==84)&&decide (2<=m.at')&&decide (m.at'<=n))
def rO(all:List dh):Mk×Bool:=let a:=mY (all.getD 0 []) 0 all.length;let b:=mY (all.getD 1 []) 1 all.length;if a.2=true/\(b.2=false\/b.1.number<a.1.number)then(a.1,true)else b
end Go.aT
namespace Go.Av
open Go.Proofs Go.Proofs.Tryz Go.aT
abbrev mkL(m:Mk):List PC:=[.int m.number,.int m.first,.int m.at']
abbrev WQ(m:Mk):PC:= .agg false (mkL m)
theorem HY(b:List UInt8):bX.v7 b=cW b:=rfl
theorem rf(m:Mk):(bX m).length=64:=by
 unfold bX;rw[HY,dU,List.length_take,ox _ (by simp[aW]),aW];rfl
theorem A5(m:Mk):aq prog 183 [WQ m] (cy (bX m)):=by
 refine bI (xs:=[_]) (r:= .view 6 0 64 1 none) (aM:=⟨[(6,eG (bX m))],[],7⟩) ?_ (yQ _ 3 6 _ (by simp[lk]) _ (rf m).symm);refine ah (rs:=[_]) [] [(2,[(3,.w []),(6,.w [])]),(3,[(1,.w []),(5,.w [])])] [] func183 rfl ?_;have l8:=aW m.number 8;have lf:=aW m.first 8;have la:=aW m.at' 4;obtain⟨b2,vV⟩:∃b2,aC m.number 8++84::(aC m.first 8++aC m.at' 4)=b2:=⟨_,rfl⟩;have l2:b2.length=21:=by rw[<-vV];simp[l8,lf,la]
 have lp:=ox b2 (by omega);have hS:bX m=(cW b2).take 56++aC m.number 8:=by unfold bX;rw[vV,HY]
 rw[hS];obtain⟨p1,hp1⟩:∃p1,(cW b2).take 56=p1:=⟨_,rfl⟩;obtain⟨p2,Qo⟩:∃p2,(cW b2).drop 56=p2:=⟨_,rfl⟩;have hpp:cW b2=p1++p2:=by rw[<-hp1,<-Qo,List.take_append_drop]
 have lp1:p1.length=56:=by rw[<-hp1];simp[lp]
 rw[hp1];simp;refine aA (jv 0 [] [] (.p .nil) [] 0 (.inr ⟨rfl,rfl,rfl⟩) (by simp) m.number 8 (by omega)) (by simp) trivial trivial rfl ?_;have t1:List.take 8 (List.map AV.p (af (aC m.number 8)))=List.map AV.p (af (aC m.number 8)):=fY (by simp[af,l8]);have e1:(af (aC m.number 8)).map AV.p++[AV.p (PC.sc (.int .u8 84))]=(af (aC m.number 8++[84])).map AV.p:=by simp[af]
 simp[t1,l8,e1];refine mC (jv 2 (aC m.number 8++[84]) [] (.view 1 0 9 1 none) [(1,eG (aC m.number 8++[84]))] 1 (.inl ⟨by simp[l8],by simp⟩) (by simp[l8]) m.first 8 (by omega)) rfl ?_;simp[l8];refine mC (jv 3 (aC m.number 8++[84]++aC m.first 8) [] (.view 2 0 17 1 none) [(2,eG (aC m.number 8++[84]++aC m.first 8))] 2 (.inl ⟨by simp[l8,lf],by simp⟩) (by simp[l8,lf]) m.at' 4 (by omega)) rfl ?_;have e3:aC m.number 8++[84]++aC m.first 8++aC m.at' 4=b2:=by rw[<-vV];simp
 simp only[e3];simp[l8,lf];refine mC (qY 4 3 (by omega) b2 21 l2.symm (by omega)) rfl ?_;simp;refine mC (jv 5 p1 p2 (.view 4 0 56 1 none) [(4,eG (cW b2))] 4 (.inl ⟨by simp[lp1],by rw[hpp]⟩) (by omega) m.number 8 (by omega)) rfl ?_;simp[lp1,results183];exact⟨[(6,5)],by simp⟩
theorem adx(a:Int):bits .and .i64 a 1=a%2:=by
 unfold bits;have b:IntKind.i64.bits=64:=rfl;rw[b];simp only[BitVec.toNat_and,BitVec.toNat_ofInt];have xD:((2^64:Nat):Int)=18446744073709551616:=rfl;rw[xD];have e1:((1:Int)%18446744073709551616).toNat=2^1-1:=rfl;rw[e1,Nat.and_two_pow_sub_one_eq_mod];rw[aD];omega
theorem A4(b:List UInt8)(hb:b.length=64)(rest n:Int):aq prog 254 [cy b,.int rest,.int n] (.tp [WQ (mY b rest n).1,.bool (mY b rest n).2]):=by
 have h1:=qX (b.take 8) (by simp;omega);have h2:=qX ((b.drop 9).take 8) (by simp;omega);have h3:=qX ((b.drop 17).take 4) (by simp;omega);have h4:=qX (b.drop 56) (by simp;omega);unfold mY;generalize cq (b.take 8)=N at*;generalize cq ((b.drop 9).take 8)=Fi at*;generalize cq ((b.drop 17).take 4)=A at*;generalize cq (b.drop 56)=T at*;have bw:∀y∈af b,1=y.width:=fun y h=>(cF b y h).symm;have k1:List.take 8 (af b)=af (b.take 8):=by simp[af]
 have k2:List.drop 9 (List.take 17 (af b))=af ((b.drop 9).take 8):=by simp[af,List.drop_take]
 have k3:List.drop 17 (List.take 21 (af b))=af ((b.drop 17).take 4):=by simp[af,List.drop_take]
 have k4:List.drop 56 (af b)=af (b.drop 56):=by simp[af]
 have h8:8<b.length:=by omega
 have a1:=adx N;have hg:(b.getD 8 0==84)=((b[8].toNat:Int)==84):=by
  rw[pR,kq h8];by_cases h:b[8]=84
  ·simp[h]
  ·have h1:(b[8]==84)=false:=by simpa using h
   have h2:¬b[8].toNat=84:=fun h3=>h (UInt8.toNat_inj.1 h3);have h3:((b[8].toNat:Int)==84)=false:=by simp;omega
   simp[h1,h3]
 refine ai (ys:=[_,_]) [] [(1,[(10,.w []),(11,.w [])]),(2,[(1,.r 1),(8,.r 1),(13,.r 1),(26,.r 1),(31,.r 1)])] [(1,1)] func254 rfl ?_;simp only[hg];simp[k1,hb];refine⟨bw,bJ h1 ?_⟩;simp[k2,hb];refine⟨bw,bJ h2 ?_⟩;simp[k3,hb];refine⟨bw,bJ h3 ?_⟩;simp[k4,hb];refine⟨bw,bJ h4 ?_⟩;have g8:(af b)[8]?=some (mG b[8]):=by simp[af,h8]
 cases c1:(N==T)with
 |false=>
  simp[c1,results254]
 |true=>
  cases c2:(N==0)with
  |true=>simp[c1,c2,bne,results254]
  |false=>
   cases c3:(N%2==rest)with
   |false=>simp[c1,c2,c3,a1,bne,results254]
   |true=>
    cases c4:((b[8].toNat:Int)==84)with
    |false=>simp[c1,c2,c3,c4,a1,g8,bne,results254]
    |true=>
     by_cases c5:2<=A
     ·by_cases c6:A<=n
      ·simp[c1,c2,c3,c4,c5,c6,a1,g8,bne,results254]
      ·simp[c1,c2,c3,c4,c5,c6,a1,g8,bne,results254]
     ·simp[c1,c2,c3,c4,c5,a1,g8,bne,results254]
theorem JT(all:List dh)(h2:2<=all.length)(h3:all.length<=65536)(h:∀s∈all,s.length=64):aq prog 162 [.sl (all.map cy)] (.tp [WQ (rO all).1,.bool (rO all).2]):=by
 have e0:all.getD 0 []=all[0]:=by rw[pR,kq (by omega)];rfl
 have e1:all.getD 1 []=all[1]:=by rw[pR,kq (by omega)];rfl
 have hA:=A4 all[0] (h _ (List.getElem_mem _)) 0 all.length;have hB:=A4 all[1] (h _ (List.getElem_mem _)) 1 all.length;unfold rO;rw[e0,e1];have g0:(all.map cy)[0]?=some (cy all[0]):=by rw[List.getElem?_map,kq (by omega)];rfl
 have g1:(all.map cy)[1]?=some (cy all[1]):=by rw[List.getElem?_map,kq (by omega)];rfl
 generalize mY all[0] 0 all.length=a at*;generalize mY all[1] 1 all.length=b at*;obtain⟨⟨a1,a2,a3⟩,ok⟩:=a;obtain⟨⟨b1,b2,b3⟩,is⟩:=b;refine ai (ys:=[_,_]) [] [] [] func162 rfl ?_;have l0:0<all.length:=by omega
 have l1:1<all.length:=by omega
 simp[l0];refine bS hA ?_;simp[l1];refine bS hB ?_;cases ok with
 |false=>simp[results162]
 |true=>
  cases is with
  |false=>simp[results162]
  |true=>
   by_cases c:b1<a1
   ·simp[c,results162]
   ·simp[c,results162]
end Go.Av
namespace Go.aT
def vb(size aK n a:Int):Bool:=decide (0<=a)&&decide (a<size)&&(decide (a<aK)||decide (aK+n<=a))
end Go.aT
namespace Go.Av
open Go.Proofs Go.Proofs.Tryz Go.aT
abbrev NY(D:aN):PC:= .agg false [.int D.n,.sl (D.bad.map PC.int),.int D.left,.sl (D.kept.map Nf),.sl (D.now.map Nf),.sl (D.q.map J4)]
abbrev Nk(D:aN)(aK n:Int):PC:= .agg false [.ref (NY D),.int aK,.int n]
theorem Sx(D:aN):aq prog 74 [.ref (NY D)] (.int D.kept.length):=by
 refine ai (ys:=[_]) [] [] [] func74 rfl ?_;simp[results74]
theorem yW(D:aN)(hl:D.kept.length<=65536)(aK n a:Int)(hf:0<=aK/\aK<=1000000)(hn:0<=n/\n<=1000000):aq prog 259 [Nk D aK n,.int a] (.bool (vb D.kept.length aK n a)):=by
 have hS:=Sx D;have w1:IntKind.i64.wrap (aK+n)=aK+n:=aD;refine ai (ys:=[_]) [] [] [] func259 rfl ?_;unfold vb;by_cases c1:0<=a
 ·simp[c1];refine bS hS ?_;by_cases c2:a<D.kept.length
  ·by_cases c3:a<aK
   ·simp[c2,c3,results259]
   ·simp[c2,c3,w1,results259]
  ·simp[c2,results259]
 ·simp[c1,results259]
theorem Nl(D:aN)(hl:D.kept.length<=65536)(aK n:Int)(hf:0<=aK/\aK<=1000000)(hn:0<=n/\n<=1000000)(x:Int×List UInt8):aq prog 258 [eS x,.ref (Nk D aK n)] (.bool (!vb D.kept.length aK n x.1)):=by
 refine ai (ys:=[_]) [] [] [] func258 rfl ?_;simp;refine bS (yW D hl aK n x.1 hf hn) ?_;simp[results258]
end Go.Av
namespace Go.aT
def putAt(all:List dh)(head:dh)(a i:Nat):Int×List UInt8:=(cq ((head.drop (10+5*i)).take 4),(all.getD (a+1+i) []).set 0 (head.getD (10+5*i+4) 0))
def yH(all:List dh)(a nx:Int):Bool:=decide (2<=a)&&decide (a<all.length)&&((all.getD a.toNat []).getD 0 0==72)&&(cq (((all.getD a.toNat []).drop 1).take 8)==nx)&&decide (1<=((all.getD a.toNat []).getD 9 0).toNat)&&decide (((all.getD a.toNat []).getD 9 0).toNat<=10)&&decide (a.toNat+((all.getD a.toNat []).getD 9 0).toNat+1<all.length)&&((all.getD (a.toNat+((all.getD a.toNat []).getD 9 0).toNat+1) []).take 9==67::aC nx 8)
def Cd(all:List dh)(a:Int):List (Int×List UInt8):=(List.range ((all.getD a.toNat []).getD 9 0).toNat).map (putAt all (all.getD a.toNat []) a.toNat)
def pT(size aK n:Int)(all:List dh)(a nx:Int):List (Int×List UInt8)×Bool:=if yH all a nx=true then(Cd all a,!((Cd all a).any fun x=>!vb size aK n x.1))else([],false)
end Go.aT
namespace Go.Av
open Go.Proofs Go.Proofs.Tryz Go.aT
theorem Nc(bx:List (Nat×Ob))(k id:Nat)(b c:List UInt8)(h:lk id bx=some (eG (b++c)))(n:Nat)(hn:n=b.length):cQ bx (k+1) (.view id 0 n 1 none) (cy b):=by
 subst hn;refine⟨_,h,by omega,by simp[af],by simp[af],?_,?_,?_⟩
 ·rw[qW,gV];simp only[List.drop_zero,Nat.mul_one];simp[af]
 ·exact cF b
 ·exact gW b
theorem xK(L:List dh):(L.map Nf).flatMap ga=L.flatMap af:=by
 induction L with
 |nil=>rfl
 |cons x L ih=>rw[List.map_cons,List.flatMap_cons,List.flatMap_cons,ih];show ga (Nf x)++_=_;rw[show ga (Nf x)=(af x).flatMap ga from by rw[gV];simp,gV]
theorem yI(nx:Nat)(b:List UInt8)(hb:b.length<=1000000000):aE prog 104 [.p (cy b)] ⟨[],[],nx⟩ (.view nx 0 b.length 1 none) ⟨[(nx,eG b)],[],nx+1⟩:=by
 have h:=AW nx (af b) (cF b) (gW b) (by simp[af];omega);rw[gV]at h;have e:(af b).length=b.length:=by simp[af]
 rw[e]at h;exact h
theorem Ng(D:aN)(hl:D.kept.length<=65536)(adq:∀s∈D.kept,s.length=64)(adr:∀s∈D.now,s.length=64)(aK n:Int)(hf:0<=aK/\aK<=1000000)(hn:0<=n/\n<=1000000)(all:List dh)(h3:all.length<=65536)(h:∀s∈all,s.length=64)(a nx:Int)(ha:-9223372036854775808<=a/\a<=9223372036854775807):aE prog 163 [.agg false [.obj 0 0,.p (.int aK),.p (.int n)],.p (.sl (all.map cy)),.p (.int a),.p (.int nx)] ⟨cE 3 D,cn 3,4⟩ (.agg true [.p (.sl ((pT D.kept.length aK n all a nx).1.map eS)),.p (.bool (pT D.kept.length aK n all a nx).2)]) ⟨cE 3 D,cn 3,4⟩:=by
 refine ah (rs:=[_,_]) [4,61] [(8,[(11,.w [])])] [] func163 rfl ?_;by_cases c1:a<2
 ·have hF:pT D.kept.length aK n all a nx=([],false):=by
   have:¬(2:Int)<=a:=by omega
   unfold pT yH;simp[this]
  rw[hF];simp[c1,results163];exact⟨[],by simp[aj]⟩
 by_cases c2:(all.length:Int)<=a
 ·have hF:pT D.kept.length aK n all a nx=([],false):=by
   have:¬a<(all.length:Int):=by omega
   unfold pT yH;simp[this]
  rw[hF];simp[c1,c2,results163];exact⟨[],by simp[aj]⟩
 obtain⟨A,rfl⟩:∃A:Nat,a=A:=⟨a.toNat,by omega⟩;have hA:A<all.length:=by omega
 have eA:all.getD A []=all[A]:=by rw[pR,kq hA];rfl
 have hlen:=h _ (List.getElem_mem hA);have iP:(2:Int)<=A:=by omega
 have dM:(A:Int)<all.length:=by omega
 obtain⟨hd,hhd⟩:∃hd,all[A]=hd:=⟨_,rfl⟩;rw[hhd]at hlen eA;have g0:hd.getD 0 0=hd[0]:=by rw[pR,kq (by omega)];rfl
 have g9:hd.getD 9 0=hd[9]:=by rw[pR,kq (by omega)];rfl
 have q0:(af hd)[0]?=some (mG hd[0]):=by rw[kq (by simp[af];omega),cH]
 have q9:(af hd)[9]?=some (mG hd[9]):=by rw[kq (by simp[af];omega),cH]
 have bw:∀y∈af hd,1=y.width:=fun y h=>(cF hd y h).symm;have w9:IntKind.i64.wrap (hd[9].toNat:Int)=(hd[9].toNat:Int):=bf (by omega) (by have:=hd[9].toNat_lt;omega);have k1:List.drop 1 (List.take 9 (af hd))=af ((hd.drop 1).take 8):=by simp[af,List.drop_take]
 have hW:=qX ((hd.drop 1).take 8) (by simp;omega);have gA:(all.map cy)[A]?=some (cy hd):=by rw[List.getElem?_map,kq hA,hhd];rfl
 obtain⟨K,hK⟩:∃K:Nat,hd[9].toNat=K:=⟨_,rfl⟩;have ak4:K<256:=by have:=hd[9].toNat_lt;omega
 obtain⟨W,hWd⟩:∃W:Int,cq ((hd.drop 1).take 8)=W:=⟨_,rfl⟩;rw[hWd]at hW;have e0:(hd[0]==72)=((hd[0].toNat:Int)==72):=by
  by_cases h:hd[0]=72
  ·simp[h]
  ·have h1:(hd[0]==72)=false:=by simpa using h
   have h2:¬hd[0].toNat=72:=fun h3=>h (UInt8.toNat_inj.1 h3);have h3:((hd[0].toNat:Int)==72)=false:=by simp;omega
   simp[h1,h3]
 have hB:yH all A nx=(((hd[0].toNat:Int)==72)&&(W==nx)&&decide (1<=K)&&decide (K<=10)&&decide (A+K+1<all.length)&&((all.getD (A+K+1) []).take 9==67::aC nx 8)):=by
  unfold yH;simp only[Int.toNat_natCast,eA,g0,g9,hK,hWd,e0,iP,dM,decide_true,Bool.true_and]
 have wK:IntKind.i64.wrap (K:Int)=K:=aD;have wA:IntKind.i64.wrap ((A:Int)+K)=((A+K:Nat):Int):=by rw[aD];rfl
 have WH:IntKind.i64.wrap ((A:Int)+K+1)=((A+K+1:Nat):Int):=by rw[aD];rfl
 rw[hK]at w9;have fail:∀(hx:yH all A nx=false),pT D.kept.length aK n all A nx=([],false):=fun hx=>by unfold pT;rw[if_neg (by rw[hx];simp)]
 cases c3:((hd[0].toNat:Int)==72)with
 |false=>
  rw[fail (by rw[hB,c3];rfl)];simp[c1,c2,gA,q0,q9,hK,w9,c3,bne,results163];exact⟨[],by simp[aj]⟩
 |true=>
  simp[c1,c2,gA,q0,q9,hK,w9,c3,bne,k1];refine⟨bw,by omega,bZ hW (by simp) ?_⟩;cases c4:(W==nx)with
  |false=>
   rw[fail (by rw[hB,c3,c4];rfl)];simp[c4,bne,results163];exact⟨[],by simp[aj]⟩
  |true=>
   by_cases c5:K<1
   ·have qS:(K:Int)<1:=by omega
    rw[fail (by rw[hB];simp[show¬1<=K by omega])];simp[c4,bne,qS,results163];exact⟨[],by simp[aj]⟩
   have qS:¬(K:Int)<1:=by omega
   by_cases c6:10<K
   ·have AX:(10:Int)<K:=by omega
    rw[fail (by rw[hB];simp[show¬K<=10 by omega])];simp[c4,bne,qS,AX,results163];exact⟨[],by simp[aj]⟩
   have AX:¬(10:Int)<K:=by omega
   by_cases c7:all.length<=A+K+1
   ·have c7':(all.length:Int)<=(A:Int)+K+1:=by omega
    rw[fail (by rw[hB];simp[show¬A+K+1<all.length by omega])];simp[c4,bne,qS,AX,c7',wA,WH,results163];exact⟨[],by simp[aj]⟩
   have c7':¬(all.length:Int)<=(A:Int)+K+1:=by omega
   have hAK:A+K+1<all.length:=by omega
   have l8:=aW nx 8;have eF:all.getD (A+K+1) []=all[A+K+1]:=by rw[pR,kq hAK];rfl
   have gF:all[A+K+1]?=some all[A+K+1]:=kq hAK;have hFl:=h _ (List.getElem_mem hAK);have eT:((A:Int)+K+1).toNat=A+K+1:=by omega
   simp[c4,bne,qS,AX,c7',wA,WH];refine aA (jv 6 [67] [] (.view 5 0 1 1 none) [(5,eG [67])] 5 (.inl ⟨by simp,by simp⟩) (by simp) nx 8 (by omega)) (by simp) (by simp[ay,af]) trivial rfl ?_;simp;refine mC (qY 7 6 (by omega) (67::aC nx 8) 9 (by simp[l8]) (by simp[l8])) rfl ?_;have i1:(0:Int)<=(A:Int)+K+1:=by omega
   have gM:(all.map cy)[A+K+1]?=some (cy all[A+K+1]):=by rw[List.getElem?_map,gF];rfl
   have b9:List.take 9 (af all[A+K+1])=af (all[A+K+1].take 9):=by simp[af]
   simp[wA,WH,eT,i1,gM,b9];refine⟨fun y h=>(cF _ y h).symm,by omega,?_⟩;refine UE (67::aC nx 8) (by kernel_rfl) (by kernel_rfl) (Nc _ 0 7 (67::aC nx 8) (List.replicate (64-(67::aC nx 8).length) 0) (by simp[lk,cW]) 9 (by simp[l8])) ?_;cases c8:(all[A+K+1].take 9==67::aC nx 8)with
   |false=>
    rw[fail (by rw[hB,eF,c8];simp)];simp[c8,bne,results163];exact⟨[],by simp[aj]⟩
   |true=>
    have hB2:yH all A nx=true:=by rw[hB,c3,c4,eF,c8];simp;omega
    have hF:pT D.kept.length aK n all A nx=(Cd all A,!((Cd all A).any fun x=>!vb D.kept.length aK n x.1)):=by unfold pT;rw[if_pos hB2]
    have hFL:Cd all A=(List.range K).map (putAt all hd A):=by unfold Cd;rw[Int.toNat_natCast,eA,g9,hK]
    rw[hF,hFL];simp[c8,bne];refine aL (fun k:Nat=>k<=K) (fun k=>[(1,.p (.sl (all.map cy))),(2,.p (.int A)),(4,.obj 4 0),(10,.p (cy hd)),(13,.own 5 (((List.range k).map (putAt all hd A)).map eS)),(78,.p (.int K)),(79,.p (.int k))]) (fun _=>⟨(4,⟨261,3,[.obj 0 0,.p (.int aK),.p (.int n)]⟩)::cE 3 D,(5,364,2)::cn 3,6⟩) (fun k=>K-k) 0 (by simp) _ (yJ 13 364 2 [] (.inr ⟨rfl,by simp⟩)) (aB [(5,8)] (by simp[aj])) ?_;intro k hk;by_cases ck:k<K
    ·have hkA:A+1+k<all.length:=by omega
     have gK:(all.map cy)[A+1+k]?=some (cy all[A+1+k]):=by rw[List.getElem?_map,kq hkA];rfl
     have wB:IntKind.i64.wrap ((A:Int)+1)=(A:Int)+1:=aD;have wC:IntKind.i64.wrap ((A:Int)+1+k)=(A:Int)+1+k:=aD;have i2:(0:Int)<=(A:Int)+1+k:=by omega
     have e2:((A:Int)+1+k).toNat=A+1+k:=by omega
     have hKl:=h _ (List.getElem_mem hkA);simp[ck,wB,wC,i2,e2,gK];refine mC (yI 6 all[A+1+k] (by omega)) rfl ?_;have wD:IntKind.i64.wrap (5*(k:Int))=5*(k:Int):=aD;have wE:IntKind.i64.wrap (10+5*(k:Int))=10+5*(k:Int):=aD;have i3:(0:Int)<=10+5*(k:Int):=by omega
     have i4:10+5*(k:Int)<=hd.length:=by omega
     have e3:(10+5*(k:Int)).toNat=10+5*k:=by omega
     obtain⟨T,hT⟩:∃T,hd.drop (10+5*k)=T:=⟨_,rfl⟩;have hT4:4<T.length:=by rw[<-hT];simp;omega
     have e4:List.drop (10+5*k) (af hd)=af T:=by rw[<-hT];simp[af]
     have qT:(af T)[4]?=some (mG T[4]):=by rw[kq (by simp[af];omega),cH]
     have e5:List.take 4 (af T)=af (T.take 4):=by simp[af]
     have hw4:=qX (T.take 4) (by simp;omega);have hP:putAt all hd A k=(cq (T.take 4),all[A+1+k].set 0 T[4]):=by
      have z1:hd.getD (10+5*k+4) 0=T[4]:=by
       have:T[4]=hd[10+5*k+4]'(by omega):=by simp[<-hT]
       rw[this,pR,kq (by omega)];rfl
      have z2:all.getD (A+1+k) []=all[A+1+k]:=by rw[pR,kq hkA];rfl
      unfold putAt;rw[hT,z1,z2]
     have gT:(AV.p (PC.sc (Value.int IntKind.u8 T[4].toNat))::(List.map AV.p (af all[A+1+k])).tail)=(af (all[A+1+k].set 0 T[4])).map .p:=by
      cases hX:all[A+1+k]with
      |nil=>rw[hX]at hKl;simp at hKl
      |cons x X=>simp[af]
     have HK:List.range (k+1)=List.range k++[k]:=List.range_succ;have wk:=jq k;simp[wD,wE,i3,e3,e4,qT,e5,gT];refine⟨bw,by omega,by omega,by omega,fun y h=>(cF _ y h).symm,by omega,bZ hw4 (by simp) ?_⟩;simp;refine Ce [eS (putAt all hd A k)] ⟨(4,⟨261,3,[.obj 0 0,.p (.int aK),.p (.int n)]⟩)::cE 3 D,(5,364,2)::cn 3,8⟩ (by simp[bt]) ?_ (by simp) (by simp) ?_
     ·rw[hP];simp[yK,Nh,Ni,JK];exact⟨by rw[gV];exact fY (by simp[af]),fun y h=>cF _ y h,fun y h=>gW _ y h⟩
     simp[wk];exact⟨by omega,by omega,k+1,by omega,by omega,aB [(5,8)] (by simp[HK,aj])⟩
    ·obtain rfl:k=K:=by omega
     simp;refine bD (Nj 258 [.ref (Nk D aK n)] (fun x=>!vb D.kept.length aK n x.1) ((List.range k).map (putAt all hd A)) (by simp;omega) (fun x _=>Nl D hl aK n hf hn x)) ?_ rfl ?_
     ·have s1:=kV _ adq;have s2:=kV _ adr;simp[gY,cQ];refine⟨⟨by simp[aj,s1],by rw[xK];simp only[aj];exact fY (by simp[s1]),adq⟩,by simp[aj,s2],by rw[xK];simp only[aj];exact fY (by simp[s2]),adr⟩
     simp[results163];exact⟨[],by simp[aj]⟩
end Go.Av
namespace Go.aT
def pU(size aK n:Int):Int:=if n<5\/aK<0\/size<n\/size-n<aK then 2 else 0
end Go.aT
namespace Go.Av
open Go.Proofs Go.Proofs.Tryz Go.aT
theorem EW(D:aN)(hd:D.kept.length<=65536)(aK n:Int):aE prog 161 [.obj 0 0,.p (.int aK),.p (.int n)] ⟨[(0,yN 3 D)],[],4⟩ (.p (.int (pU D.kept.length aK n))) ⟨[(0,yN 3 D)],[],4⟩:=by
 have hS:=Ge D;unfold pU;refine ah (rs:=[_]) [] [] [] func161 rfl ?_;by_cases c1:n<5
 ·simp[c1,results161];exact⟨[],by simp⟩
 by_cases c2:aK<0
 ·simp[c1,c2,results161];exact⟨[],by simp⟩
 simp[c1,c2];refine mC hS rfl ?_;by_cases c3:(D.kept.length:Int)<n
 ·simp[c3,results161];exact⟨[],by simp⟩
 simp[c3];refine mC hS rfl ?_;have w1:IntKind.i64.wrap ((D.kept.length:Int)-n)=(D.kept.length:Int)-n:=aD;by_cases c4:(D.kept.length:Int)-n<aK
 ·simp[c4,w1,results161];exact⟨[],by simp⟩
 ·simp[c4,w1,results161];exact⟨[],by simp⟩
theorem qt(D:aN)(b:Nat)(hD:dO b D)(aK n a:Int)(hf:0<=aK/\aK<=1000000)(ha:-1000000000<=a/\a<=1000000000)(l:List dh)(hl:l.length<=1000000000)(hb:b+l.length<=1000000000000):aE prog 181 [.agg false [.obj 0 0,.p (.int aK),.p (.int n)],.p (.int a),.p (.sl (l.map cy))] ⟨cE 3 D,cn 3,4⟩ (.p (.int (D.write (aK+a) l).2)) ⟨cE 4 (D.write (aK+a) l).1,cn 4,5⟩:=by
 have w1:IntKind.i64.wrap (aK+a)=aK+a:=aD;refine ah (rs:=[_]) [3] [] [] func181 rfl ?_;simp[w1];refine qU [0,1,2,3] (q_ D b hD (aK+a) (by omega) l hl hb) ?_;simp[results181,aj];exact⟨[(4,5)],by simp⟩
end Go.Av
namespace Go.aT
theorem dO.write{b:Nat}{D:aN}(h:dO b D)(a:Int)(l:List dh):dO (b+l.length) (D.write a l).1:=by
 unfold aN.write;split
 ·rename_i hc;split
  ·have hh:=h.next;have ht:0<=a/\a<=D.kept.length/\(0:Int)<=(l.length:Int)/\(l.length:Int)<=D.kept.length-a:=by
    have:=hc.1;unfold aN.there at this;simp at this;omega
   have hk:D.next.1.kept.length=D.kept.length:=by unfold aN.next;split<;>rfl
   exact hh.lay a.toNat l (fun s hs=>by have:=List.all_eq_true.1 hc.2 s hs;simpa using this) (by rw[hk];omega)
  ·exact h.next.up (by omega)
 ·exact h.up (by omega)
theorem dO.read{b:Nat}{D:aN}(h:dO b D)(a n:Int):dO b (D.read a n).1:=by
 unfold aN.read;split
 ·split
  ·exact h.next
  ·exact h.next
 ·exact h
theorem dO.flush{b:Nat}{D:aN}(h:dO b D):dO b D.flush.1:=by
 unfold aN.flush;split
 ·exact h.next.settle.up (by omega)
 ·exact h.next
abbrev xe:=Int×List UInt8
structure Jr where
 aK:Int
 n:Int
 H6:Mk
 next:Int
 at':Int
 base:Int
 wr:Bool
 bY:List xe
 cnt:Int
def gU:List xe->aN->aN×Int
 |[],D=>(D,0)
 |p::l,D=>if(D.write p.1 [p.2]).2=0 then gU l (D.write p.1 [p.2]).1 else D.write p.1 [p.2]
theorem dO.home{b:Nat}:∀(l:List xe) {D:aN},dO b D->dO (b+l.length) (gU l D).1
 |[],_,h=>h
 |p::l,D,h=>by
  unfold gU;have hw:=h.write p.1 [p.2];split
  ·exact(dO.home l hw).up (by simp;omega)
  ·exact hw.up (by simp)
def Jr.mZ(J:Jr):Mk:=⟨IntKind.i64.wrap (J.H6.number+1),J.next,J.at'⟩
def Jr.tell(J:Jr)(D:aN):aN×Int:=D.write (J.aK+J.mZ.number%2) [bX J.mZ]
def Jr.settled(J:Jr):Jr:={J with H6:=if 0<J.cnt then J.mZ else J.H6,base:=J.at',wr:=false,bY:=[],cnt:=0}
end Go.aT
namespace Go.Av
open Go.Proofs Go.Proofs.Tryz Go.aT
@[reducible]def fy(d r:Nat)(J:Jr):Ob:=⟨268,12,[.obj d 0,.p (.int J.aK),.p (.int J.n),.p (.int J.H6.number),.p (.int J.H6.first),.p (.int J.H6.at'),.p (.int J.next),.p (.int J.at'),.p (.int J.base),.p (.bool J.wr),.own r (J.bY.map eS),.p (.int J.cnt)]⟩
structure C7(J:Jr):Prop where
 aK:0<=J.aK/\J.aK<=1000000
 n:5<=J.n/\J.n<=1000000
 bY:J.bY.length<=1000000000
 at':0<=J.at'/\J.at'<=100000000
 base:0<=J.base/\J.base<=100000000
theorem HC(D:aN)(b:Nat)(hD:dO b D)(J:Jr)(hJ:C7 J)(hb:b<=100000000000)(ho:∀p∈J.bY,-9223372036854775808<=p.1/\p.1<=9223372036854775807):aE prog 165 [.obj 4 0] ⟨(4,fy 0 5 J)::cE 3 D,(5,364,2)::cn 3,6⟩ (.p (.int (gU J.bY D).2)) ⟨(4,fy 0 5 J)::cE 6 (gU J.bY D).1,(5,364,2)::cn 6,7⟩:=by
 have zX:=hJ.bY;refine ah (rs:=[_]) [4] [(4,[(4,.r 1),(6,.r 2),(8,.r 2),(10,.w [1,2])])] [(1,4),(2,7)] func165 rfl ?_;simp;refine aL (fun(kD:Nat×aN)=>kD.1<=J.bY.length/\dO (b+kD.1) kD.2/\gU (J.bY.drop kD.1) kD.2=gU J.bY D) (fun kD=>[(0,.obj 4 0),(9,.own 5 (J.bY.map eS)),(10,.p (.int J.bY.length)),(11,.p (.int kD.1))]) (fun kD=>⟨(4,fy 0 5 J)::cE 6 kD.2,(5,364,2)::cn 6,7⟩) (fun kD=>J.bY.length-kD.1) (0,D) ⟨by simp,hD,by simp⟩ _ (AS.le_refl _ _) (aB [(6,3)] (by simp[aj])) ?_;rintro⟨k,E⟩ ⟨hk,hE,hh⟩;simp only at hk hE hh;by_cases ck:k<J.bY.length
 ·have gp:(J.bY.map eS)[k]?=some (eS J.bY[k]):=by rw[List.getElem?_map,kq ck];rfl
  have hpk:=ho _ (List.getElem_mem ck);obtain⟨p,hp⟩:∃p,J.bY[k]=p:=⟨_,rfl⟩;rw[hp]at gp hpk;have hdr:J.bY.drop k=p::J.bY.drop (k+1):=by rw[List.drop_eq_getElem_cons ck,hp]
  rw[hdr]at hh;have wk:=jq k;have hW:=q_ E (b+k) hE p.1 hpk [p.2] (by simp) (by simp;omega);simp[ck,fy,hp];refine qU [0,1,2,6] hW ?_;by_cases c2:(E.write p.1 [p.2]).2=0
  ·have Jk:gU (J.bY.drop (k+1)) (E.write p.1 [p.2]).1=gU J.bY D:=by rw[<-hh,gU,if_pos c2]
   have mF:=hE.write p.1 [p.2];simp[c2,wk,aj];exact⟨k+1,_,⟨by omega,mF,Jk⟩,by omega,aB [(6,8)] (by simp[aj])⟩
  ·have dM:((E.write p.1 [p.2]).2 !=0)=true:=by simpa using c2
   rw[<-hh,gU,if_neg c2];simp[dM,aj,results165];exact⟨[(6,8)],by simp⟩
 ·obtain rfl:k=J.bY.length:=by omega
  rw[List.drop_length]at hh;rw[<-hh];simp[gU,results165];exact⟨[],by simp[aj]⟩
theorem HD(D:aN)(b:Nat)(hD:dO b D)(J:Jr)(hJ:C7 J)(hb:b<=100000000000):aE prog 167 [.obj 4 0] ⟨(4,fy 0 5 J)::cE 3 D,(5,364,2)::cn 3,6⟩ (.p (.int (J.tell D).2)) ⟨(4,fy 0 5 J)::cE 6 (J.tell D).1,(5,364,2)::cn 6,7⟩:=by
 have hf:=hJ.aK;have h2:0<=J.mZ.number%2/\J.mZ.number%2<2:=by omega
 have hS:=A5 J.mZ;have hW:=qt D b hD J.aK J.n (J.mZ.number%2) hf (by omega) [bX J.mZ] (by simp) (by simp;omega);refine ah (rs:=[_]) [4] [(1,[(4,.r 1),(9,.r 1),(13,.r 1),(15,.w [1]),(16,.s 2 [1])]),(2,[(3,.r 1),(5,.r 2),(7,.r 2),(10,.w [1,2])])] [(1,4),(2,6)] func167 rfl ?_;rw[show J.tell D=D.write (J.aK+J.mZ.number%2) [bX J.mZ]from rfl];simp[fy];refine bJ hS ?_;simp[adx];refine bq [0,1,2,3] hW (by simp) (by simp[Jr.mZ]) (by simp[ay,aj]) (by simp[ay]) ?_;simp[results167,aj];exact⟨[(6,7)],by simp⟩
theorem yC(J:Jr):aE prog 168 [.obj 4 0] ⟨[(4,fy 0 5 J)],[(5,364,2)],6⟩ (.agg true []) ⟨[(4,fy 0 6 J.settled)],[(6,364,2)],7⟩:=by
 have key:aE prog 168 [.obj 4 0] ⟨[(4,fy 0 5 J)],[(5,364,2)],6⟩ (.agg true []) ⟨[(4,{fy 0 6 J.settled with xs:=[.obj 0 0,.p (.int J.aK),.p (.int J.n),.p (.int J.settled.H6.number),.p (.int J.settled.H6.first),.p (.int J.settled.H6.at'),.p (.int J.next),.p (.int J.at'),.p (.int J.at'),.p (.bool false),.p .nil,.p (.int 0)]})],[],6⟩:=by
  refine ah (rs:=[]) [4] [(1,[(5,.r 1),(10,.r 1),(14,.r 1),(18,.s 1 [])]),(2,[(7,.r 1),(10,.s 1 []),(13,.s 1 []),(16,.s 1 []),(19,.s 1 [])])] [(1,4)] func168 rfl ?_;by_cases c:0<J.cnt
  ·simp[fy,c];exact⟨[],by simp[Jr.settled,c,Jr.mZ]⟩
  ·simp[fy,c];exact⟨[],by simp[Jr.settled,c]⟩
 have h2:=tj (id:=4) (j:=10) 364 2 [] key rfl (.inr ⟨rfl,rfl⟩);exact ye h2 _ (by simp[ay,Tb.aP,Tb.bU,del,Jr.settled]) (by simp[ay,Tb.aP,Tb.bU]) (by simp) (by simp[Tb.aP,Tb.bU])
end Go.Av
namespace Go.aT
def EZ(n:Int)(N:UInt8)(aF:List xe):List UInt8:=72::(aC n 8++N::aF.flatMap fun p=>aC p.1 4++[p.2.getD 0 0])
def ade(n:Int)(aF:List xe):List UInt8:=EZ n (UInt8.ofNat aF.length) aF
def jF(n:Int)(aF:List xe):List dh:=v7 (ade n aF)::(aF.map (fun p=>p.2.set 0 0)++[v7 (67::aC n 8)])
where v7 (b:List UInt8):List UInt8:=b++List.replicate (64-b.length) 0
theorem qV(n:Int)(N:UInt8)(aF:List xe):(EZ n N aF).length=10+5*aF.length:=by
 have:(aF.flatMap fun p=>aC p.1 4++[p.2.getD 0 0]).length=5*aF.length:=by
  induction aF with
  |nil=>rfl
  |cons p l ih=>simp only[List.flatMap_cons,List.length_append,ih,aW];simp;omega
 show(72::(aC n 8++N::_)).length=_;rw[List.length_cons,List.length_append,List.length_cons,this,aW];omega
end Go.aT
namespace Go.Av
open Go.Proofs Go.Proofs.Tryz Go.aT
theorem Kj(n:Int)(aF:List xe)(h1:1<=aF.length)(hm:aF.length<=10)(hp:∀p∈aF,p.2.length=64):aq prog 355 [.int n,.sl (aF.map eS)] (.sl ((jF n aF).map cy)):=by
 refine bI (xs:=[_,_]) (r:= .view 0 0 (aF.length+2) 1 none) (aM:=⟨[(0,⟨22,1,(jF n aF).map fun b=> .p (cy b)⟩)],[],1⟩) ?_ ?_
 ·refine ah (rs:=[_]) [10,18,50] [(6,[(2,.r 1),(3,.w [1]),(5,.r 1),(9,.w [1])])] [(1,2)] func355 rfl ?_;have l8:=aW n 8;have wl:IntKind.u8.wrap (aF.length:Int)=(aF.length:Int):=by
   rw[IntKind.wrap_u8];omega
  have hN:(UInt8.ofNat aF.length).toNat=aF.length:=by simp;omega
  obtain⟨N,hNe⟩:∃N,UInt8.ofNat aF.length=N:=⟨_,rfl⟩;rw[hNe]at hN;have b0:List.take 9 (af (72::aC n 8))++[PC.sc (.int .u8 aF.length)]=af (EZ n N []):=by
   rw[List.take_of_length_le (by simp[af,l8])];simp[EZ,af,hN]
  have b0':List.take 9 (List.map AV.p (af (72::aC n 8)))++[AV.p (PC.sc (.int .u8 aF.length))]=(af (EZ n N [])).map .p:=by
   rw[<-b0,List.map_append,List.map_take];rfl
  simp;refine aA (jv 1 [72] [] (.view 0 0 1 1 none) [(0,eG [72])] 0 (.inl ⟨by simp,by simp⟩) (by simp) n 8 (by omega)) (by simp) (by simp[ay,af]) trivial rfl ?_;simp[wl];refine⟨by omega,?_⟩;refine aL (fun k:Nat=>k<=aF.length) (fun k=>[(0,.p (.int n)),(5,.view 0 0 (10+5*k) 1 none),(6,.view 1 0 (k+1) 1 none),(19,.p (.sl (aF.map eS))),(20,.p (.int aF.length)),(21,.p (.int k))]) (fun k=>⟨[(0,eG (EZ n N (aF.take k))),(1,⟨22,1,.p .nil::((aF.take k).map fun p=>AV.p (cy (p.2.set 0 0)))⟩)],[],2⟩) (fun k=>aF.length-k) 0 (by simp) _ (AS.le_refl _ _) (aB [(0,2),(1,3)] (by simp[b0',aU])) ?_;intro k hk;by_cases ck:k<aF.length
  ·have ckl:=hp _ (List.getElem_mem ck);have oK:aF.take (k+1)=aF.take k++[aF[k]]:=by rw[List.take_succ_eq_append_getElem ck]
   have Zj:=jv 3 (EZ n N (aF.take k)) [] (.view 0 0 (EZ n N (aF.take k)).length 1 none) [(0,eG (EZ n N (aF.take k)))] 0 (.inl ⟨rfl,by simp⟩) (by rw[qV];simp;omega) aF[k].1 4 (by omega);have hlk:(EZ n N (aF.take k)).length=10+5*k:=by rw[qV];simp;omega
   rw[hlk]at Zj;obtain⟨p,hpe⟩:∃p,aF[k]=p:=⟨_,rfl⟩;rw[hpe]at Zj ckl oK;have q0:(af p.2)[0]?=some (mG p.2[0]):=by rw[List.getElem?_eq_getElem (by simp[af];omega),cH]
   have wk:=jq k;simp[ck,hpe];refine mC Zj rfl ?_;have hz4:=aW p.1 4;simp[q0];refine⟨by omega,by omega,by omega,aA (yI 5 p.2 (by omega)) (by simp) (by simp[ay]) trivial rfl ?_⟩;have gT:(AV.p (PC.sc (.int .u8 0))::(List.map AV.p (af p.2)).tail)=(af (p.2.set 0 0)).map .p:=by
    cases hX:p.2 with
    |nil=>rw[hX]at ckl;simp at ckl
    |cons x X=>simp[af]
   have b3:List.take (10+5*k+4) (List.map AV.p (af (EZ n N (List.take k aF)++aC p.1 4)))++[AV.p (PC.sc (.int .u8 p.2[0].toNat))]=(af (EZ n N (aF.take (k+1)))).map .p:=by
    rw[List.take_of_length_le (by simp[af];omega),oK];have g0:p.2.getD 0 0=p.2[0]:=by rw[List.getD_eq_getElem?_getD,List.getElem?_eq_getElem (by omega)];rfl
    have g1:p.2[0]?.getD 0=p.2[0]:=by rw[List.getElem?_eq_getElem (by omega)];rfl
    simp[EZ,af,g1]
   simp[gT,b3];refine⟨by omega,by omega,?_⟩;refine Ce [cy (p.2.set 0 0)] ⟨[(4,eG (EZ n N (aF.take (k+1)))),(2,⟨364,2,[.p (.int p.1),.p (cy p.2)]⟩),(1,⟨22,1,.p .nil::List.take k (List.map (fun p=> .p (cy (p.2.set 0 0))) aF)⟩)],[],7⟩ (by simp[bt]) ?_ (by simp) (by simp) ?_
   ·simp[yK,Nh,JK];exact⟨by rw[gV];exact List.take_of_length_le (by simp[af]),fun y h=>cF _ y h,fun y h=>gW _ y h⟩
   have e1:10+5*k+4+1=10+5*(k+1):=by omega
   have Kk:List.take (k+1) (List.map (fun p=>AV.p (cy (p.2.set 0 0))) aF)=List.take k (List.map (fun p=>AV.p (cy (p.2.set 0 0))) aF)++[AV.p (cy (p.2.set 0 0))]:=by
    have:=congrArg (List.map fun p:xe=>AV.p (cy (p.2.set 0 0))) oK;simpa using this
   have htt:List.take k (List.take k (List.map (fun p=>AV.p (cy (p.2.set 0 0))) aF))=List.take k (List.map (fun p=>AV.p (cy (p.2.set 0 0))) aF):=by rw[List.take_take,Nat.min_self]
   simp[wk,e1];exact⟨by omega,by omega,by omega,k+1,by omega,by omega,aB [(0,4),(1,7)] (by simp[Kk,aU,htt])⟩
  ·obtain rfl:k=aF.length:=by omega
   rw[List.take_length];have NF:=tT (b:=cW (EZ n N aF)) (qY 2 0 (by omega) (EZ n N aF) (10+5*aF.length) (by rw[qV]) (by rw[qV];omega)) (by simp[lk]) (ox _ (by rw[qV];omega)).symm;simp;refine mC NF rfl ?_;simp;refine aA (jv 5 [67] [] (.view 4 0 1 1 none) [(4,eG [67])] 4 (.inl ⟨by simp,by simp⟩) (by simp) n 8 (by omega)) (by simp) (by simp[ay,af]) trivial rfl ?_;simp;have afq:=tT (b:=cW (67::aC n 8)) (qY 6 5 (by omega) (67::aC n 8) 9 (by simp[l8]) (by simp[l8])) (by simp[lk]) (ox _ (by simp[l8])).symm;refine mC afq rfl ?_;have r1:jF n aF=cW (EZ n N aF)::(aF.map (fun p=>p.2.set 0 0)++[cW (67::aC n 8)]):=by rw[<-hNe];rfl
   simp[results355];refine⟨by omega,by omega,[(0,8)],?_⟩;rw[r1];simp[aU];rw[List.take_of_length_le (by simp)];exact List.prefix_rfl
 ·have hrl:(jF n aF).length=aF.length+2:=by simp[jF]
  refine⟨_,by simp[lk];rfl,by omega,by simp[hrl],by simp[hrl],?_,?_,?_⟩
  ·have:∀L:List dh,(L.map cy).flatMap aU=L.map fun b=>AV.p (cy b):=by
    intro L
    induction L with
    |nil=>rfl
    |cons x L ih=>rw[List.map_cons,List.flatMap_cons,ih];rfl
   rw[this];simp only[List.drop_zero,Nat.mul_one];exact List.take_of_length_le (by simp[hrl])
  ·simp
  ·simp
end Go.Av
