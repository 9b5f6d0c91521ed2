/- DiskSizes, part 4: an abstract interpreter over a program's form, with the proof that it is sound; it holds for any program that the model takes. -/
import Derived.Test.YtgkdpbambfgahaaGreatDoorWac
import Derived.Laws.MakeOwn
set_option linter.all false
set_option maxRecDepth 100000
set_option maxHeartbeats 64000000
namespace Go.Av
open Go.RowKit
section
variable{P:Program}{sl:Nat->AV}{o:Oper}{st:AS}
theorem gN{t:TypeId}{s:Nat}(h:aJ P t=some s):∃el,P.underlying t=some (.slice el)/\aP P el=some s:=by
 unfold aJ at h;split at h
 ·rename_i el hU;exact⟨el,hU,h⟩
 ·cases h
theorem XM{c:Call}{x:Operand}{t:TypeId}{id f n s:Nat}{m:Option Nat}(ho:o.op= .call c)(hc:c.callee= .builtin .len)(ha:c.args=#[x])(hts:c.argTypes=#[t])(hx:bH sl x= .view id f n s m)(ht:(aJ P t).isSome=true):cO P sl o (.p (.int n)):=dj fun w0 M0 F tb g a w hw h=>by
 have e1:=h x (by rw[ho];simp[Op.operands,Call.operands,hc,ha]);rw[hx]at e1;obtain⟨el,hU⟩:=Ew ht;generalize hv:a.eval x=v at e1;cases e1 with
 |view e h3 h4 h5 hm=>exact⟨.int .i64 n,by simp[execOp,ho,resolve,hc,ha,hts,invoke,builtin,hv,Builtin.len_,run_underlying hU,goInt],.p (.sc _ rfl)⟩
theorem XN{c:Call}{x:Operand}{t:TypeId}{id f n s m:Nat}(ho:o.op= .call c)(hc:c.callee= .builtin .cap)(ha:c.args=#[x])(hts:c.argTypes=#[t])(hx:bH sl x= .view id f n s (some m))(ht:(aJ P t).isSome=true):cO P sl o (.p (.int ((m-f:Nat):Int))):=dj fun w0 M0 F tb g a w hw h=>by
 have e1:=h x (by rw[ho];simp[Op.operands,Call.operands,hc,ha]);rw[hx]at e1;obtain⟨el,hU⟩:=Ew ht;generalize hv:a.eval x=v at e1;cases e1 with
 |view e h3 h4 h5 hm=>obtain rfl:=hm _ rfl;exact⟨.int .i64 (((_:Nat)-f:Nat):Int),by simp[execOp,ho,resolve,hc,ha,hts,invoke,builtin,hv,Builtin.cap_,run_underlying hU,goInt],.p (.sc _ rfl)⟩
theorem ahx{t:TypeId}{x i:Operand}{id f n s:Nat}{m:Option Nat}{kd:IntKind}{j:Int}(ho:o.op= .indexAddr t x i)(hx:bH sl x= .view id f n s m)(hi:(bH sl i).nm= .p (.sc (.int kd j)))(h0:0<=j)(hn:j<(n:Int))(hsz:aJ P t=some s):cO P sl o (.obj id ((f+j.toNat)*s)):=dj fun w0 M0 F tb g a w hw h=>by
 have h1:=h x (by simp[ho,Op.operands]);rw[hx]at h1;have h2:=bU (h i (by simp[ho,Op.operands]));rw[hi]at h2;have yZ:=bf h2;generalize hv:a.eval x=v at h1;generalize we:a.eval i=v2 at yZ;cases yZ;obtain⟨el,hU,hs⟩:=gN hsz;cases h1 with
 |view e h3 h4 h5 hm=>
  rename_i b cc ad;cases h5 with
  |void h0 _=>omega
  |real off gH had h5=>
  subst had;obtain rfl:=h5 (.inl (by omega));refine⟨.pointer (some ⟨b,(f+j.toNat)*s,none⟩),?_,.obj e⟩;simp[execOp,ho,hv,we,Instr.indexAt,asIntOf,run_underlying hU,h0,hn,run_sizeOf hs,Addr.add_lit,Nat.add_mul]
theorem Uu{t:TypeId}{x:Operand}{lo hi:Option Operand}{id f n s l h:Nat}{m:Option Nat}(ho:o.op= .slice t x lo hi none)(hx:bH sl x= .view id f n s m)(hsz:aJ P t=some s)(hlo:match lo.map (fun y=>(bH sl y).nm)with|none=>l=0|some (.p (.sc (.int _ i)))=>i=(l:Int)|_=>False)(hhi:match hi.map (fun y=>(bH sl y).nm)with|none=>h=n|some (.p (.sc (.int _ i)))=>i=(h:Int)|_=>False)(h1:l<=h)(h2:h<=n\/∃k,m=some k/\f+h<=k):cO P sl o (.view id (f+l) (h-l) s m):=dj fun w0 M0 F tb g a w hw hr=>by
 have h3:=hr x (by simp[ho,Op.operands]);rw[hx]at h3;generalize hv:a.eval x=v at h3;have b1:=lz (fun y e=>bU (hr y (by simp[ho,Op.operands,e]))) hlo;have b2:=lz (fun y e=>bU (hr y (by simp[ho,Op.operands,e]))) hhi;obtain⟨el,hU,hs⟩:=gN hsz;cases h3 with
 |view e h3 h4 h5 hm=>
  rename_i b cc ad;have h2:f+h<=cc:=by
   rcases h2 with h2|⟨k,hk,h2⟩
   ·omega
   ·rw[hm k hk];exact h2
  cases h5 with
  |void h0 s_=>
   subst h0;have Kb:l=0:=by omega
   have hh0:h=0:=by omega
   have hf0:f=0:=by omega
   subst Kb;subst hh0;subst hf0;have hb:=mO (P:=P) (Tt:=true) (n:=n) (cap:=0) b1 b2 h1 (by omega) w;refine⟨.slice ad 0 0,?_,?_⟩
   ·simp[execOp,ho,hv,Instr.sliceAt,Instr.slice,run_underlying hU,hb,run_sizeOf hs]
   ·have:=aZ.view (g:=g) (id:=id) (b:=b) (c:=0) (o:=0) (n:=0) (s:=s) (a:=ad) e (by omega) h4 (.void rfl s_) hm;simpa using this
  |real off gH had h5=>
  subst had;have hb:=mO (P:=P) (Tt:=true) (n:=n) (cap:=cc-f) b1 b2 h1 (by omega) w;refine⟨.slice (some ⟨b,off+(if cc-f=l then 0 else l*s),none⟩) (h-l) (cc-f-l),?_,?_⟩
  ·have hoff:(if cc-f=l then(some (⟨b,off,none⟩:Addr))else some ⟨b,off+l*s,none⟩)=some ⟨b,off+(if cc-f=l then 0 else l*s),none⟩:=by split<;>simp
   rw[<-hoff];simp[execOp,ho,hv,Instr.sliceAt,Instr.slice,run_underlying hU,hb,run_sizeOf hs,Addr.add_lit]
  ·have e2:cc-f-l=cc-(f+l):=by omega
   rw[e2];refine .view e (by omega) h4 (.real _ gH rfl fun hh=>?_) hm;split
   ·rename_i hml;rcases hh with hh|hh
    ·omega
    ·have h0:=h5 (.inr (by omega));have:f+l=f:=by omega
     rw[this];simpa using h0
   ·rename_i hml;rw[h5 (.inl (by omega)),Nat.add_mul]
theorem tX{w0:World}{M0:Mem}{F:Nat->Prop}{tb:Tb}{g:G}{w:World}(hw:aR w0 M0 F tb g w){id b c:Nat}{ob:Ob}(hl:lk id tb.bx=some ob)(he:g.ob id=some (b,c))(lo k:Nat)(hk:lo+k<=ob.xs.length):∃cs,cs.length=k/\(loadCells ⟨b,lo,none⟩ k).run P w= .ok cs.toArray w/\aL g cs ((ob.xs.drop lo).take k)/\(∀v∈cs,v.oneCell'=true)/\(loadCells ⟨b,lo,none⟩ k).run P w.drew= .ok cs.toArray w.drew:=by
 have xx:=hw.boxes id ob hl;by_cases DB:k=0
 ·subst DB;exact⟨[],rfl,by simp[loadCells,loadCellsFrom],by simpa using aL.nil,by simp,by simp[loadCells,loadCellsFrom]⟩
 have gH:0<c:=xx.pos he fun hz=>by rw[hz]at hk;simp at hk;omega
 obtain⟨cur,f2,f3,⟨tt,fz,f4,fo⟩,f5,f6,f7,f8,f9⟩:=xx.real he gH;generalize b=b' at*;have cell:∀j u,cur[j]?=some u->w.cell? ⟨b',j,none⟩=some u:=fun j u e=>by unfold World.cell?;rw[f4];simpa using e
 have hls:((cur.toList.drop lo).take k).length=k:=by rw[List.length_take,List.length_drop];simp;omega
 have hrun:=run_loadCells_list (P:=P) w ⟨b',lo,none⟩ ((cur.toList.drop lo).take k) (fun j u e=>by
  rw[Addr.add_lit];rw[List.getElem?_take]at e;split at e
  ·rw[List.getElem?_drop]at e;exact cell _ _ (by simpa using e)
  ·cases e)
 rw[hls]at hrun;have Gn:=run_loadCells_list (P:=P) w.drew ⟨b',lo,none⟩ ((cur.toList.drop lo).take k) (fun j u e=>by
  rw[Addr.add_lit];rw[List.getElem?_take]at e;split at e
  ·rw[List.getElem?_drop]at e;exact cell _ _ (by simpa using e)
  ·cases e)
 rw[hls]at Gn;have e3:((cur.toList.take ob.xs.length).drop lo).take k=(cur.toList.drop lo).take k:=by
  rw[List.drop_take,List.take_take,Nat.min_eq_left (by omega)]
 refine⟨_,hls,hrun,?_,fun u hu=>f9 u ?_,Gn⟩
 ·have:=(f8.drop lo).take k;rw[e3]at this;exact this
 ·rw[<-e3]at hu;exact List.mem_of_mem_take (List.mem_of_mem_drop (List.mem_of_mem_take hu))
theorem IS{w0:World}{M0:Mem}{F:Nat->Prop}{tb:Tb}{g:G}{w:World}(hw:aR w0 M0 F tb g w){id b c:Nat}{ob:Ob}(hl:lk id tb.bx=some ob)(he:g.ob id=some (b,c))(gH:0<c)(lo:Nat){cs:List Value}{zs:List AV}(hz:aL g cs zs)(hone:∀v∈cs,v.oneCell'=true)(hk:lo<=ob.xs.length)(hc:lo+zs.length<=c*ob.sz):∃w',(storeCells ⟨b,lo,none⟩ cs).run P w= .ok () w'/\aR w0 M0 F (tb.aQ id {ob with xs:=ob.xs.take lo++zs++ob.xs.drop (lo+zs.length)}) g w':=by
 have f1':=he;obtain⟨cur,f2,f3,⟨tt,fz,f4,fo⟩,f5,f6,f7,f8,f9⟩:=(hw.boxes id ob hl).real he gH;generalize b=b' at*;have hlz:=hz.length;have hst:=fO P b' lo tt fz cs 0 cur w f4 fo.fz (by omega) hone;simp only[Nat.add_zero]at hst;refine⟨_,hst,?_⟩;have vO:((cur.toList.take lo++cs++cur.toList.drop (lo+cs.length)).toArray).toList.take (ob.xs.take lo++zs++ob.xs.drop (lo+zs.length)).length=(cur.toList.take ob.xs.length).take lo++cs++(cur.toList.take ob.xs.length).drop (lo+zs.length):=by
  have e1:(ob.xs.take lo++zs++ob.xs.drop (lo+zs.length)).length=(cur.toList.take lo++cs).length+(ob.xs.length-(lo+zs.length)):=by
   simp only[List.length_append,List.length_take,List.length_drop,Array.length_toList];omega
  have e2:((cur.toList.take ob.xs.length).take lo)=cur.toList.take lo:=by rw[List.take_take,Nat.min_eq_left hk]
  rw[e1,List.take_length_add_append,e2,hlz,List.drop_take]
 refine hw.aQ (o':={ob with xs:=ob.xs.take lo++zs++ob.xs.drop (lo+zs.length)}) hl f1' gH f4 (by simp;omega) rfl rfl (by simp;omega) ?_ ?_
 ·show aL g (List.take (ob.xs.take lo++zs++ob.xs.drop (lo+zs.length)).length _) _;rw[vO];exact((f8.take lo).append hz).append (f8.drop _)
 ·intro v hv;simp only[List.mem_append]at hv;rcases hv with(hv|hv)|hv
  ·exact f9 v (List.mem_of_mem_take hv)
  ·exact hone v hv
  ·exact f9 v (List.mem_of_mem_drop hv)
end
def fC(n:Nat)(z:List PC):List PC:=(List.replicate n z).flatten
theorem oH(n:Nat)(z:List PC):(fC n z).length=n*z.length:=by simp[fC]
@[simp]theorem Mx(n:Nat)(x:PC):fC n [x]=List.replicate n x:=by
 induction n with
 |zero=>rfl
 |succ n ih=>simp only[fC,List.replicate_succ,List.flatten_cons]at ih⊢;rw[ih];rfl
theorem pI{z:List Value}:∀(n:Nat) (cs:Array Value),cs.toList=(List.replicate n z).flatten->∀(M:Mem),(∀v∈z,v.oneCell'=true)->cP M cs.toList (fC n (z.map c1))/\∀v∈cs.toList,v.oneCell'=true:=by
 intro n cs h M hz;rw[h];constructor
 ·unfold fC;clear h
  induction n with
  |zero=>exact .nil
  |succ n ih=>simp only[List.replicate_succ,List.flatten_cons];exact(rG M z hz).append ih
 ·intro v hv;obtain⟨l,hl,hv⟩:=List.mem_flatten.1 hv;rw[List.eq_of_mem_replicate hl]at hv;exact hz v hv
section
variable{P:Program}{sl:Nat->AV}{o:Oper}{st:AS}
theorem um(z:Array Value)(hz:0<z.size):∀(n:Nat),(madeCells z (n*z.size)).toList=(List.replicate n z.toList).flatten
 |0=>by simp[madeCells]
 |n+1=>by
  have ih:=um z hz n;have e:(madeCells z ((n+1)*z.size)).toList=(madeCells z (n*z.size)).toList++z.toList:=by
   simp only[madeCells,Array.toList_map,Array.toList_range];rw[Nat.succ_mul,List.range_add,List.map_append,List.map_map];congr 1;apply List.ext_getElem
   ·simp
   ·intro i h1 h2;have hi:i<z.size:=by simpa using h2
    simp only[List.getElem_map,List.getElem_range,Function.comp_apply];rw[Nat.add_comm,Nat.add_mul_mod_self_right,Nat.mod_eq_of_lt hi];simp[hi]
  rw[e,ih,List.replicate_succ',List.flatten_append];simp
theorem sk{e:TypeId}{z:List PC}(h:bJ P e=some z){i:TypeInfo}(hi:P.info? e=some i):∃zv,i.zero=some zv/\z=zv.cells.toList.map c1/\∀v∈zv.cells.toList,v.oneCell'=true:=by
 obtain⟨j,zv,h1,h2,h3,h4⟩:=Gv h;rw[hi]at h1;injection h1 with h1;subst h1;exact⟨zv,h2,h3,h4⟩
theorem ahs{t e:TypeId}{x y:Operand}{s bV n c:Nat}{kl kc:IntKind}{z:List PC}(ho:o.op= .makeSlice t x y)(ht:cV P t=some (e,s,bV))(hs:0<s)(hz:bJ P e=some z)(hx:(bH st.sl x).nm= .p (.sc (.int kl n)))(hy:(bH st.sl y).nm= .p (.sc (.int kc c)))(hn:n<=c)(hb:bV*c<=281474976710656)(hc:c<=maxLen):dx P st o (.view st.tb.nx 0 n s (some c)) (st.tb.aT ⟨e,s,(fC c z).map .p⟩):=bQ fun w0 M0 F g a w hw h=>by
 have h1:=bU (h x (by simp[ho,Op.operands]));rw[hx]at h1;have h2:=bU (h y (by simp[ho,Op.operands]));rw[hy]at h2;have h1:=bI h1;have h2:=bI h2;obtain⟨hU,i,zv,hi,yI,mY,qu,hzs⟩:=fk ht;obtain⟨Uq,mH,rfl,hone⟩:=sk hz hi;rw[yI]at mH;injection mH with mH;subst mH;have hb':(i.bytes:Int)*(c:Int)<=281474976710656:=by rw[qu];have:=Int.ofNat_le.2 hb;simpa using this
 have G2:(c:Int)<=9223372036854775807:=by unfold maxLen at hc;omega
 have hrun:=run_make (P:=P) w t e i zv hU hi yI kl kc n c (Int.natCast_nonneg n) (Int.ofNat_le.2 hn) hb' G2;simp only[Int.toNat_natCast]at hrun;have so:=um zv.cells (by omega) c;have hsz:zv.cells.size=i.size:=by rw[mY,hzs]
 rw[hsz]at so;have hB:Below w.heap.size w (w.alloc (.cells (madeCells zv.cells (c*i.size)) e)):=(Below.refl _ _).alloc (Nat.le_refl _) _;have hr:=pI c (madeCells zv.cells (c*i.size)) so g.M hone;have hlen:((fC c (zv.cells.toList.map c1)).map AV.p).length=(madeCells zv.cells (c*i.size)).size:=by
  simp only[List.length_map,oH,size_madeCells,Array.length_toList,hsz]
 have rX:(madeCells zv.cells (c*i.size)).toList.take ((fC c (zv.cells.toList.map c1)).map AV.p).length=(madeCells zv.cells (c*i.size)).toList:=List.take_of_length_le (by rw[hlen];simp);have key:=hw.yV (o:=⟨e,s,(fC c (zv.cells.toList.map c1)).map .p⟩) (cur:=madeCells zv.cells (c*i.size)) (c:=c) hB (heap_alloc_new w _) (by rw[size_madeCells,mY]) hc (by rw[hlen];exact Nat.le_refl _) (by rw[rX];exact ja hr.1) hr.2;refine⟨.slice (some ⟨w.heap.size,0,none⟩) n c,_,_,?_,hw.kF _ _,key,?_⟩
 ·simp only[execOp,ho,h1,h2,Sem.run_bind,hrun];rfl
 ·have:=aZ.view (g:=g.di st.tb.nx w.heap.size c) (id:=st.tb.nx) (b:=w.heap.size) (c:=c) (o:=0) (n:=n) (s:=s) (a:=some ⟨w.heap.size,0,none⟩) (by simp[G.di]) (by omega) hc (by
   rcases Nat.eq_zero_or_pos c with h0|h0
   ·exact .void h0 (.inr ⟨_,rfl⟩)
   ·exact .real 0 h0 rfl (fun _=>by simp)) (m:=some c) (fun k hk=>by injection hk)
  simpa using this
theorem zJ{w0:World}{M0:Mem}{F:Nat->Prop}{tb:Tb}{g:G}{w:World}(hw:aR w0 M0 F tb g w){id b c f n s off k:Nat}{ob:Ob}(hl:lk id tb.bx=some ob)(he:g.ob id=some (b,c))(hsz:ob.sz=s)(hfn:f+n<=c)(hoff:f<c\/f=0->off=f*s){cs:List Value}{zs:List AV}(hz:aL g cs zs)(hone:∀v∈cs,v.oneCell'=true)(hk:k<=n)(hlen:zs.length=k*s)(hx:f*s<=ob.xs.length):∃w',(storeCells ⟨b,off,none⟩ cs).run P w= .ok () w'/\aR w0 M0 F (tb.aQ id {ob with xs:=ob.xs.take (f*s)++zs++ob.xs.drop (f*s+zs.length)}) g w':=by
 have hlz:=hz.length;by_cases DB:k*s=0
 ·have h0:zs=[]:=List.eq_nil_of_length_eq_zero (by omega);have h1:cs=[]:=List.eq_nil_of_length_eq_zero (by omega);subst h0;subst h1;refine⟨w,by simp[storeCells],hw.sub (fun i p e=>?_) (fun _ _ e=>e) (Nat.le_refl _)⟩;simp only[Tb.aQ,bg]at e;split at e
  ·rename_i hi;subst hi;injection e with e;subst e;simp only[List.append_nil,List.length_nil,Nat.add_zero,List.take_append_drop];exact hl
  ·rename_i hi;rw[cD,if_neg hi]at e;exact e
 ·have hkp:0<k:=Nat.pos_of_ne_zero fun h=>DB (by rw[h];simp);obtain rfl:=hoff (.inl (by omega));refine IS hw hl he (by omega) (f*s) hz hone hx ?_;rw[hlen,hsz,<-Nat.add_mul];exact Nat.mul_le_mul_right _ (by omega)
theorem kY{w0:World}{M0:Mem}{F:Nat->Prop}{tb:Tb}{g:G}{w:World}(hw:aR w0 M0 F tb g w){id b c f n s k:Nat}{a:Option Addr}{ob:Ob}(hl:lk id tb.bx=some ob)(he:g.ob id=some (b,c))(hsz:ob.sz=s)(hfn:f+n<=c)(hv:wo a b c f s){cs:List Value}{zs:List AV}(hz:aL g cs zs)(hone:∀v∈cs,v.oneCell'=true)(hk:k<=n)(hlen:zs.length=k*s)(hx:f*s<=ob.xs.length):∃w',(∀ad,a=some ad->(storeCells ad cs).run P w= .ok () w')/\(a=none->w'=w)/\aR w0 M0 F (tb.aQ id {ob with xs:=ob.xs.take (f*s)++zs++ob.xs.drop (f*s+zs.length)}) g w':=by
 cases hv with
 |real off gH ha hoff=>
  subst ha;obtain⟨w',h1,h2⟩:=zJ (P:=P) hw hl he hsz hfn hoff hz hone hk hlen hx;exact⟨w',(fun ad e=>by injection e with e;subst e;exact h1),(fun e=>by cases e),h2⟩
 |void h0 ha=>
  obtain⟨w',h1,h2⟩:=zJ (P:=P) (off:=f*s) hw hl he hsz hfn (fun _=>rfl) hz hone hk hlen hx;have DB:k=0:=by omega
  have hc0:cs=[]:=List.eq_nil_of_length_eq_zero (by rw[hz.length,hlen,DB,Nat.zero_mul]);subst hc0;simp only[storeCells,Sem.run_pure]at h1;injection h1 with _ h1;subst h1;exact⟨w,(fun ad e=>by simp[storeCells]),(fun _=>rfl),h2⟩
def bB(k:Nat)(xs:List AV):List AV:=xs++List.replicate (k-xs.length) .any
theorem eN{k:Nat}{xs:List AV}(h:k<=xs.length):bB k xs=xs:=by
 unfold bB;rw[Nat.sub_eq_zero_of_le h];simp
theorem eH{k:Nat}{xs:List AV}:(bB k xs).length=max xs.length k:=by
 unfold bB;simp;omega
theorem aR.aiS{w0:World}{M0:Mem}{F:Nat->Prop}{tb:Tb}{g:G}{w:World}(hw:aR w0 M0 F tb g w){id b c k:Nat}{ob:Ob}(hl:lk id tb.bx=some ob)(he:g.ob id=some (b,c))(hk:k<=c*ob.sz):aR w0 M0 F (tb.aQ id {ob with xs:=bB k ob.xs}) g w:=by
 rcases Nat.eq_zero_or_pos c with h0|h0
 ·subst h0;rw[eN (by omega)];refine hw.sub (fun i p e=>?_) (fun _ _ e=>e) (Nat.le_refl _);simp only[Tb.aQ,bg]at e;by_cases hi:i=id
  ·rw[if_pos hi]at e;injection e with e;subst e;subst hi;exact hl
  ·rw[if_neg hi,cD,if_neg hi]at e;exact e
 ·obtain⟨cur,f2,f3,⟨tt,fz,f4,fo⟩,f5,f6,f7,f8,f9⟩:=(hw.boxes id ob hl).real he h0;have hlen:(bB k ob.xs).length<=cur.size:=by rw[eH];omega
  have an_:∀(l:List Value),aL g l (List.replicate l.length .any):=fun l=>by
   induction l with
   |nil=>exact .nil
   |cons v l ih=>exact .cons (.any v) ih
  have xw:aL g (cur.toList.take (bB k ob.xs).length) (bB k ob.xs):=by
   have e1:cur.toList.take (bB k ob.xs).length=cur.toList.take ob.xs.length++(cur.toList.drop ob.xs.length).take (k-ob.xs.length):=by
    have:(bB k ob.xs).length=ob.xs.length+(k-ob.xs.length):=by rw[eH];omega
    rw[this,List.take_add]
   rw[e1];refine f8.append ?_;have:=an_ ((cur.toList.drop ob.xs.length).take (k-ob.xs.length));have e2:((cur.toList.drop ob.xs.length).take (k-ob.xs.length)).length=k-ob.xs.length:=by
    rw[eH]at hlen;rw[List.length_take,List.length_drop,Array.length_toList];omega
   rw[e2]at this;exact this
  have key:=hw.aQ (o':={ob with xs:=bB k ob.xs}) (cur':=cur) hl he h0 f4 rfl rfl rfl hlen xw f9;have:w.setRow b cur=w:=by
   obtain⟨heap,tape,drawn,os,output⟩:=w;simp only[World.setRow,World.mk.injEq,and_true]at f4⊢;apply Array.ext_getElem?;intro k;rw[Array.getElem?_modify];split
   ·rename_i e;subst e;rw[f4];rfl
   ·rfl
  rw[this]at key;exact key
theorem U6{x:AV}{aO:Tb}{y:Operand}{id f n s:Nat}{m:Option Nat}{ob:Ob}(hy:y∈o.op.operands)(hx:bH st.sl y= .view id f n s m)(hl:lk id st.tb.bx=some ob)(hsz:ob.sz=s)(h:dx P ⟨st.sl,st.tb.aQ id {ob with xs:=bB (f*s) ob.xs}⟩ o x aO):dx P st o x aO:=by
 intro w0 M0 F g a w hw hop K Q hK;have h1:=iq (a:=a) y (fun t e=>hop t (e▸hy));rw[hx]at h1;generalize a.eval y=v at h1;cases h1 with
 |view e h3 h4 h5 hm=>
  exact h w0 M0 F g a w (hw.aiS hl e (by rw[hsz];exact Nat.mul_le_mul_right _ (by omega))) hop K Q hK
def aV:PC->List AV
 | .agg false xs=>xs.map .p
 |x=>[.p x]
theorem nh{g:G}:∀{us:List Value} {ys:List PC},cP g.M us ys->(∀y∈ys,cF y=true)->aL g (cellsOf us) (ys.flatMap aV)
 |_,_,.nil,_=> .nil
 |v::us,y::ys,.cons h hs,hn=>by
  simp only[cellsOf,List.flatMap_cons];refine aL.append ?_ (nh hs fun z hz=>hn z (by simp[hz]));have hy:=hn y (by simp);by_cases hp:y.plain=true
  ·obtain⟨e1,e2⟩:=gT h hp;rw[e1];have:aV y=[.p y]:=by cases y<;>simp_all [aV,PC.plain]
   rw[this];exact .cons (.p h) .nil
  ·cases y with
   |agg b xs=>
    cases b with
    |true=>simp[cF]at hy
    |false=>
     cases h with
     |agg hr h1=>simpa[aV,Value.cells]using ja hr
   |_=>simp[PC.plain]at hp
theorem IT{c:Call}{x y:Operand}{t u:TypeId}(ho:o.op= .call c)(hc:c.callee= .builtin .copy)(ha:c.args=#[x,y])(ht:c.argTypes=#[t,u])(a:Act)(w:World):(execOp a.eval o).run P w=((Builtin.copy_ #[t,u] o.type #[a.eval x,a.eval y]).run P w).andThen fun v w=> .ok (.value v) w:=by
 simp only[execOp,ho,resolve,hc,ha,ht,Sem.run_bind,Sem.run_pure,Result.andThen_ok,invoke,builtin,List.map_toArray,List.map_cons,List.map_nil]
theorem zK{c:Call}{x y:Operand}{t u:TypeId}{id f n s k:Nat}{m:Option Nat}{ob:Ob}{zs:List AV}(ho:o.op= .call c)(hc:c.callee= .builtin .copy)(ha:c.args=#[x,y])(hts:c.argTypes=#[t,u])(hx:bH st.sl x= .view id f n s m)(hl:lk id st.tb.bx=some ob)(hsz:ob.sz=s)(hel:aJ P t=some s)(hf:f*s<=ob.xs.length)(hk:k<=n)(hlen:zs.length=k*s)(hsrc:∀(w0:World) (M0:Mem) (F:Nat->Prop) (g:G) (v:Value) (w:World),aR w0 M0 F st.tb g w->aZ g v (bH st.sl y)->∃sLen cs,(Builtin.lenOf v).run P w= .ok sLen w/\Nat.min sLen n=k/\(Builtin.firstCells s k v).run P w= .ok cs.toArray w/\aL g cs zs/\∀u∈cs,u.oneCell'=true):dx P st o (.p (.int k)) (st.tb.aQ id {ob with xs:=ob.xs.take (f*s)++zs++ob.xs.drop (f*s+zs.length)}):=bQ fun w0 M0 F g a w hw h=>by
 have h1:=h x (by rw[ho];simp[Op.operands,Call.operands,hc,ha]);rw[hx]at h1;have h2:=h y (by rw[ho];simp[Op.operands,Call.operands,hc,ha]);obtain⟨el,hU,hs⟩:=gN hel;obtain⟨sLen,cs,q1,q2,q3,q4,q5⟩:=hsrc w0 M0 F g _ w hw h2;generalize hv:a.eval x=v at h1;cases h1 with
 |view e h3 h4 h5 hm=>
  rename_i b cc ad;obtain⟨w',r1,r0,r2⟩:=kY (P:=P) hw hl e hsz h3 h5 q4 q5 hk hlen hf;refine⟨.int .i64 k,w',g,?_,G.le_refl g,r2,.p (.sc _ rfl)⟩;rw[IT ho hc ha hts,hv];have:(Builtin.copy_ #[t,u] o.type #[.slice ad n (cc-f),a.eval y]).run P w= .ok (goInt k) w':=by
   cases ad with
   |none=>obtain rfl:=r0 rfl;simp[Builtin.copy_,run_underlying hU,q1,q2,run_sizeOf hs,q3]
   |some ad=>simp[Builtin.copy_,run_underlying hU,q1,q2,run_sizeOf hs,q3,r1 ad rfl]
  rw[this];rfl
theorem SM{c:Call}{x y:Operand}{t u:TypeId}{id f n s id' f' n' k:Nat}{m m':Option Nat}{ob iz:Ob}(ho:o.op= .call c)(hc:c.callee= .builtin .copy)(ha:c.args=#[x,y])(hts:c.argTypes=#[t,u])(hx:bH st.sl x= .view id f n s m)(hl:lk id st.tb.bx=some ob)(hsz:ob.sz=s)(hel:aJ P t=some s)(hf:f*s<=ob.xs.length)(hy:bH st.sl y= .view id' f' n' s m')(hl':lk id' st.tb.bx=some iz)(hk:Nat.min n' n=k)(hf':(f'+k)*s<=iz.xs.length):dx P st o (.p (.int k)) (st.tb.aQ id {ob with xs:=ob.xs.take (f*s)++(iz.xs.drop (f'*s)).take (k*s)++ob.xs.drop (f*s+k*s)}):=by
 have hzl:((iz.xs.drop (f'*s)).take (k*s)).length=k*s:=by
  rw[List.length_take,List.length_drop];rw[Nat.add_mul]at hf';omega
 have:=zK (P:=P) (st:=st) (o:=o) (k:=k) (zs:=(iz.xs.drop (f'*s)).take (k*s)) ho hc ha hts hx hl hsz hel hf (by rw[<-hk];exact Nat.min_le_right _ _) hzl ?_
 ·rw[hzl]at this;exact this
 ·intro w0 M0 F g v w hw hv;rw[hy]at hv;cases hv with
  |view e h3 h4 h5 hm=>
   rename_i b cc ad;by_cases DB:k*s=0
   ·refine⟨n',[],by simp[Builtin.lenOf],hk,?_,?_,by simp⟩
    ·cases ad<;>simp only[Builtin.firstCells,DB]<;>rfl
    ·rw[List.eq_nil_of_length_eq_zero (l:=(iz.xs.drop (f'*s)).take (k*s)) (by omega)];exact .nil
   ·have hkp:0<k:=Nat.pos_of_ne_zero fun h=>DB (by rw[h];simp);have hkn:k<=n':=by rw[<-hk];exact Nat.min_le_left _ _
    cases h5 with
    |void h0 _=>omega
    |real off gH had h5=>
    subst had;obtain rfl:=h5 (.inl (by omega));obtain⟨cs,r1,r2,r3,r4,_⟩:=tX (P:=P) hw hl' e (f'*s) (k*s) (by rw[<-Nat.add_mul];exact hf');exact⟨n',cs,by simp[Builtin.lenOf],hk,by simp only[Builtin.firstCells];exact r2,r3,r4⟩
theorem SN{c:Call}{x y:Operand}{t u:TypeId}{id f n s k:Nat}{m:Option Nat}{ob:Ob}{ys:List PC}(ho:o.op= .call c)(hc:c.callee= .builtin .copy)(ha:c.args=#[x,y])(hts:c.argTypes=#[t,u])(hx:bH st.sl x= .view id f n s m)(hl:lk id st.tb.bx=some ob)(hsz:ob.sz=s)(hel:aJ P t=some s)(hf:f*s<=ob.xs.length)(hy:(bH st.sl y).nm= .p (.sl ys))(hk:Nat.min ys.length n=k)(hw':∀y∈ys,y.width=s)(hn:∀y∈ys,cF y=true):dx P st o (.p (.int k)) (st.tb.aQ id {ob with xs:=ob.xs.take (f*s)++(ys.take k).flatMap aV++ob.xs.drop (f*s+k*s)}):=by
 have sQ:k<=ys.length:=by rw[<-hk];exact Nat.min_le_left _ _
 have an':∀y∈ys,(aV y).length=s:=fun y hy=>by
  rw[<-hw' y hy];cases y with
  |agg b l=>cases b<;>simp[aV,PC.width]
  |_=>rfl
 have hzl:((ys.take k).flatMap aV).length=k*s:=by
  have key:∀(l:List PC),(∀y∈l,(aV y).length=s)->(l.flatMap aV).length=l.length*s:=by
   intro l
   induction l with
   |nil=>intro _;simp
   |cons z l ih=>intro h;simp only[List.flatMap_cons,List.length_append,List.length_cons];rw[ih fun q hq=>h q (by simp[hq]),h z (by simp),Nat.succ_mul];omega
  rw[key _ fun y hy=>an' y (List.mem_of_mem_take hy),List.length_take,Nat.min_eq_left sQ]
 have:=zK (P:=P) (st:=st) (o:=o) (k:=k) (zs:=(ys.take k).flatMap aV) ho hc ha hts hx hl hsz hel hf (by rw[<-hk];exact Nat.min_le_right _ _) hzl ?_
 ·rw[hzl]at this;exact this
 ·intro w0 M0 F g v w hw hv;have hv:=bU hv;rw[hy]at hv;obtain⟨ad,cap,us,jJ⟩:=nc (bf hv);have nw:=jJ.nw;have Ug:=nw.length;have iE:∀u∈us.take k,u.cells.size=s:=fun u hu=>cY nw hw' u (List.mem_of_mem_take hu);have gR:=cN (us.take k) iE;rw[List.length_take,Nat.min_eq_left (by omega)]at gR;refine⟨ys.length,cellsOf (us.take k),by rw[jJ.hv];simp[Builtin.lenOf],hk,?_,nh (nw.take k) fun y hy=>hn y (List.mem_of_mem_take hy),fun u hu=>jJ.hone u ?_⟩
  ·rw[jJ.hv];cases ad with
   |none=>
    have h0:=jJ.hnil rfl;have h1:=jJ.hcap;have:us=[]:=List.eq_nil_of_length_eq_zero (by omega);subst this;simp[Builtin.firstCells,cellsOf]
   |some b=>
    rcases jJ.dS b rfl with⟨e,dS⟩|hc0
    case inr=>
     have h1:=jJ.hcap;have Q8:us=[]:=List.eq_nil_of_length_eq_zero (by omega);subst Q8;exact gE gR fun j u hj=>by simp[cellsOf]at hj
    refine gE gR fun j u hj=>?_;rw[e,Addr.add_lit];refine hw.holds _ _ _ (dS j u ?_);have e3:cellsOf us=cellsOf (us.take k)++cellsOf (us.drop k):=by rw[<-gP,List.take_append_drop]
    rw[e3,List.getElem?_append_left (List.getElem?_eq_some_iff.1 hj).1];exact hj
  ·have e3:cellsOf us=cellsOf (us.take k)++cellsOf (us.drop k):=by rw[<-gP,List.take_append_drop]
   rw[e3];exact List.mem_append_left _ hu
theorem mX{z:Array Value}(hz:0<z.size)(n:Nat):(Builtin.zeroCells z n).toList=(List.replicate n z.toList).flatten:=um z hz n
theorem Nz{c:Call}{x:Operand}{t e:TypeId}{id f n s bV:Nat}{m:Option Nat}{ob:Ob}{z:List PC}(ho:o.op= .call c)(hc:c.callee= .builtin .clear)(ha:c.args=#[x])(hts:c.argTypes=#[t])(hx:bH st.sl x= .view id f n s m)(hl:lk id st.tb.bx=some ob)(hsz:ob.sz=s)(hel:cV P t=some (e,s,bV))(hs:0<s)(hz:bJ P e=some z)(hf:f*s<=ob.xs.length):dx P st o .any (st.tb.aQ id {ob with xs:=ob.xs.take (f*s)++(fC n z).map .p++ob.xs.drop (f*s+n*s)}):=bQ fun w0 M0 F g a w hw h=>by
 have h1:=h x (by rw[ho];simp[Op.operands,Call.operands,hc,ha]);rw[hx]at h1;obtain⟨hU,i,zv,hi,yI,mY,qu,hzs⟩:=fk hel;obtain⟨Uq,mH,rfl,hone⟩:=sk hz hi;rw[yI]at mH;injection mH with mH;subst mH;have so:=mX (z:=zv.cells) (by omega) n;have hr:=pI n (Builtin.zeroCells zv.cells n) so g.M hone;generalize hv:a.eval x=v at h1;cases h1 with
 |view e h3 h4 h5 hm=>
  rename_i b cc ad;have hlen:((fC n (zv.cells.toList.map c1)).map AV.p).length=n*s:=by simp only[List.length_map,oH,Array.length_toList,hzs]
  obtain⟨w',r1,r0,r2⟩:=kY (P:=P) hw hl e hsz h3 h5 (ja hr.1) hr.2 (Nat.le_refl n) hlen hf;rw[hlen]at r2;refine⟨.tuple #[],w',g,?_,G.le_refl g,r2,.any _⟩;have hrun:(Builtin.clear_ #[t] o.type #[.slice ad n (cc-f)]).run P w= .ok (.tuple #[]) w':=by
   cases ad with
   |none=>obtain rfl:=r0 rfl;simp[Builtin.clear_,run_underlying hU]
   |some ad=>
   have r1:=r1 ad rfl;cases n with
   |zero=>
    have e0:(Builtin.zeroCells zv.cells 0).toList=[]:=by rw[so];simp
    rw[e0]at r1;simp only[storeCells,Sem.run_pure]at r1;injection r1 with _ r1;subst r1;simp[Builtin.clear_,run_underlying hU]
   |succ n=>simp[Builtin.clear_,run_underlying hU,zeroValue,typeInfo,hi,yI,r1]
  simp only[execOp,ho,resolve,hc,ha,hts,Sem.run_bind,Sem.run_pure,Result.andThen_ok,invoke,builtin,List.map_toArray,List.map_cons,List.map_nil,hv,hrun]
  try rfl
end
theorem aL.split{g:G}:∀(xs:List AV) {vs:List Value} {ys:List AV},aL g vs (xs++ys)->∃us ws,vs=us++ws/\aL g us xs/\aL g ws ys
 |[],vs,_,h=>⟨[],vs,rfl,.nil,h⟩
 |x::xs,_,ys,h=>by
  cases h with
  |cons h hs=>
   obtain⟨us,ws,rfl,h1,h2⟩:=aL.split xs hs;exact⟨_::us,ws,rfl,.cons h h1,h2⟩
theorem zI{g:G}:∀{vs:List Value} (xs:List PC),aL g vs (xs.map .p)->cP g.M vs xs
 |_,[],h=>by cases h;exact .nil
 |_,x::xs,h=>by cases h with|cons h hs=>exact .cons (bf h) (zI xs hs)
theorem qv{g:G}:∀(ys:List PC) {cs:List Value},aL g cs (ys.flatMap aV)->(∀u∈cs,u.oneCell'=true)->(∀y∈ys,cF y=true)->∃us,cellsOf us=cs/\cP g.M us ys
 |[],_,h,_,_=>by cases h;exact⟨[],rfl,.nil⟩
 |y::ys,cs,h,h1,hn=>by
  simp only[List.flatMap_cons]at h;obtain⟨us,ws,rfl,k1,k2⟩:=aL.split _ h;obtain⟨vs,e,k3⟩:=qv ys k2 (fun u hu=>h1 u (by simp[hu])) (fun z hz=>hn z (by simp[hz]));have one:∀(v:Value),us=[v]->v.cells=#[v]:=fun v e=>by
   have:=h1 v (by rw[e];simp);cases v<;>simp_all [Value.cells,Value.oneCell']
  have plain:aV y=[.p y]->∃us',cellsOf us'=us++ws/\cP g.M us' (y::ys):=fun hp=>by
   rw[hp]at k1;cases k1 with
   |@cons v _ _ _ hv hs=>
    cases hs;refine⟨v::vs,?_,.cons (bf hv) k3⟩;simp only[cellsOf,List.flatMap_cons]at e⊢;rw[one v rfl,e]
  cases y with
  |agg b l=>
   cases b with
   |true=>have:=hn (.agg true l) (by simp);simp[cF]at this
   |false=>
    simp only[aV]at k1;have hr:=zI l k1;refine⟨.agg us.toArray::vs,?_,.cons (.agg hr fun v hv=>h1 v (by simp[hv])) k3⟩;simp only[cellsOf,List.flatMap_cons]at e⊢;rw[e];simp[Value.cells]
  |_=>exact plain rfl
section
variable{w0:World}{M0:Mem}{F:Nat->Prop}{tb:Tb}{g:G}{w:World}
theorem aR.vr(h:aR w0 M0 F tb g w){id b c n:Nat}{ob:Ob}{ys:List PC}(hl:lk id tb.bx=some ob)(he:g.ob id=some (b,c))(gH:0<c)(hs:0<ob.sz)(hn:n<=c)(hx:n*ob.sz<=ob.xs.length)(hc:ob.xs.take (n*ob.sz)=ys.flatMap aV)(hy:ys.length=n)(hw':∀y∈ys,y.width=ob.sz)(ht:∀y∈ys,cF y=true):∃N,g.M.le N/\aR w0 M0 F ((tb.cE id).bX ob.el ob.sz) ((g.with N).cX tb.nx (.slice (some ⟨b,0,none⟩) n c)) w/\gB N (.slice (some ⟨b,0,none⟩) n c) (.sl ys):=by
 have f1':=he;obtain⟨cur,f2,f3,⟨tt,fz,f4,fo⟩,f5,f6,f7,f8,f9⟩:=(h.boxes id ob hl).real he gH;generalize b=b' at*;generalize c=c' at*
 let N:Mem:=fun k o=>if k=b' then(cur.toList.take (n*ob.sz))[o]? else g.M k o
 have hNb:∀o,N b' o=(cur.toList.take (n*ob.sz))[o]?:=fun o=>by show(if b'=b' then _ else _)=_;rw[if_pos rfl]
 have Fu:∀k,k≠b'->N k=g.M k:=fun k hk=>by funext o;show(if k=b' then _ else _)=_;rw[if_neg hk]
 have hM:g.M.le N:=fun k o v e=>by
  by_cases hk:k=b'
  ·subst hk;rw[f3 o]at e;cases e
  ·rw[Fu k hk];exact e
 have hne:∀i p k m,lk i tb.bx=some p->i≠id->g.ob i=some (k,m)->0<m->k≠b':=fun i p k m e hi hg hm=>h.fG i id p ob k m b' c' e hl hi hg f1' hm gH;have hnr:∀i r v,lk i tb.rw=some r->g.rv i=some v->dQ v≠some b':=fun i r v e hv=>h.eX id i ob r b' c' v hl e f1' hv gH;have J6:(g.with N).le ((g.with N).cX tb.nx (.slice (some ⟨b',0,none⟩) n c')):=⟨Mem.le_refl _,fun _ _ e=>e,fun i p e=>by have:=h.mh e;simp only[G.cX];rw[if_neg (by omega)];exact e⟩;have dS:At N b' 0 (cur.toList.take (n*ob.sz)):=fun j v e=>by rw[Nat.zero_add,hNb];exact e
 have hcells:aL g (cur.toList.take (n*ob.sz)) (ys.flatMap aV):=by
  have:=f8.take (n*ob.sz);rw[hc,List.take_take,Nat.min_eq_left hx]at this;exact this
 have hone:∀u∈cur.toList.take (n*ob.sz),u.oneCell'=true:=fun u hu=>f9 u (by
  have:cur.toList.take (n*ob.sz)=(cur.toList.take ob.xs.length).take (n*ob.sz):=by rw[List.take_take,Nat.min_eq_left hx]
  exact List.mem_of_mem_take hu)
 obtain⟨us,nw,xw⟩:=qv ys hcells hone ht;refine⟨N,hM,⟨⟨fun k o v e=>?_,h.holds.g.mono hM⟩,h.keep,fun k hk hf=>?_,h.BD.trans hM,fun i p e=>?_,fun i el sz e=>?_,fun i j p q k m k' m' ei ej hij=>?_,fun i j r s u v k ei ej hij e1 e2 e3=>?_,fun i j p r k m v ei ej e1 e2 p1=>?_,fun i hi=>?_⟩,?_⟩
 ·by_cases hk:k=b'
  ·subst hk;have e:N k o=some v:=e;rw[hNb]at e;rw[List.getElem?_take]at e;split at e
   ·unfold World.cell?;rw[f4];simpa using e
   ·cases e
  ·exact h.holds k o v (by rw[<-Fu k hk];exact e)
 ·have hkb:k≠b':=fun hh=>by
   subst hh;rcases f2 with f2|f2
   ·omega
   ·exact hf f2
  show N k=M0 k;rw[Fu k hkb];exact h.old k hk hf
 ·simp only[Tb.bX,Tb.cE,cD]at e;split at e
  ·cases e
  ·rename_i hi;obtain⟨b1,c1,q1,qr,q0⟩:=h.boxes i p e;refine⟨b1,c1,q1,fun hp=>?_,q0⟩;obtain⟨ou,q2,q3,q4,q5,q6,q7,q8,q9⟩:=qr hp;exact⟨ou,q2,fun off=>by show N b1 off=none;rw[Fu b1 (hne i p b1 c1 e hi q1 hp)];exact q3 off,q4,q5,q6,q7,(q8.mono (G.mQ hM)).mono J6,q9⟩
 ·simp only[Tb.bX,Tb.cE,bg]at e;split at e
  ·rename_i hi;subst hi;injection e with e;injection e with e1 e2;subst e1;subst e2;refine⟨.slice (some ⟨b',0,none⟩) n c',by simp[G.cX],?_⟩;rcases Nat.lt_or_ge n c' with hlt|hge
   ·exact .inr ⟨b',n,c',cur,rfl,f2,⟨tt,fz,f4,fo⟩,f5,hlt,f6,hs,dS,fun o v e=>by
     have e:N b' o=some v:=e;rw[hNb]at e;have:=(List.getElem?_eq_some_iff.1 e).1;simp at this;omega⟩
   ·obtain rfl:n=c':=by omega
    exact .inl ⟨_,_,rfl⟩
  ·rename_i hi;obtain⟨v,q1,q2⟩:=h.rows i el sz e;refine⟨v,by simp only[G.cX];rw[if_neg hi];exact q1,q2.imp (fun h=>h) ?_⟩;rintro⟨b1,n1,DL,ou,g3,g4,g5,g6,g7,g8,g9,g10,g11⟩;have hb1:b1≠b':=fun hh=>hnr i _ v e q1 (by subst g3;subst hh;exact cZ g7);exact⟨b1,n1,DL,ou,g3,g4,g5,g6,g7,g8,g9,g10.mono hM,fun o v e=>g11 o v (by rw[<-Fu b1 hb1];exact e)⟩
 ·simp only[Tb.bX,Tb.cE,cD]at ei ej;split at ei
  ·cases ei
  ·split at ej
   ·cases ej
   ·exact h.fG i j p q k m k' m' ei ej hij
 ·simp only[Tb.bX,Tb.cE,bg]at ei ej;simp only[G.cX]at e1 e2;split at ei
  ·rename_i hi;rw[if_pos hi]at e1;injection e1 with e1;subst e1;have:=eJ e3;subst this;split at ej
   ·rename_i hj;omega
   ·rename_i hj;rw[if_neg hj]at e2;exact hnr j s v ej e2
  ·rename_i hi;rw[if_neg hi]at e1;split at ej
   ·rename_i hj;rw[if_pos hj]at e2;injection e2 with e2;subst e2;intro e6;have:=eJ e6;subst this;exact hnr i r u ei e1 e3
   ·rename_i hj;rw[if_neg hj]at e2;exact h.gJ i j r s u v k ei ej hij e1 e2 e3
 ·simp only[Tb.bX,Tb.cE,bg,cD]at ei ej;simp only[G.cX]at e2;split at ei
  ·cases ei
  ·rename_i hi;split at ej
   ·rename_i hj;rw[if_pos hj]at e2;injection e2 with e2;subst e2;intro e6;have:=eJ e6;exact hne i p k m ei hi e1 p1 this
   ·rename_i hj;rw[if_neg hj]at e2;exact h.eX i j p r k m v ei ej e1 e2 p1
 ·simp only[Tb.bX,Tb.cE]at hi;have:=h.fresh i (by omega);simp only[G.cX];rw[if_neg (by omega)];exact this
 ·have Ug:=xw.length;refine .sl (us:=us) (by omega) hn f6 hs (cY xw hw') (fun v hv=>hone v (by rw[<-nw];exact hv)) (by rw[nw];exact dS) (xw.mono hM)
end
def Om(P:Program)(t:TypeId)(k:AV->Prop):AV->AV->Prop
 | .view id f n s m,y=>(match y.nm with
  | .p (.sc (.int _ j))=>0<=j/\j<(n:Int)/\aJ P t=some s/\k (.obj id ((f+j.toNat)*s))
  |_=>False)
 | .obj id off,y=>(match y.nm,gL P t with
  | .p (.sc (.int _ j)),some (m,s,_)=>0<=j/\j<(m:Int)/\k (.obj id (off+j.toNat*s))
  |_,_=>False)
 |x,y=>eS P t k x.nm y.nm
def glW(P:Program)(t:TypeId)(k:AV->Prop):AV->Prop
 | .p (.sc (.int _ n))=>gL P t=some (16,1,false)/\0<=n/\n<16/\k (.p (.ref (.sc (.int .u32 ((kn.getD n.toNat 0:Nat):Int)))))
 |_=>False
def tV(n cap:Nat)(lo hi:Option AV)(k:Nat->Nat->Prop):Prop:=match nP 0 lo,nP n hi with
 |some l,some h=>nQ lo/\nQ hi/\l<=h/\h<=cap/\k l h
 |_,_=>False
def xN(P:Program)(t:TypeId)(lo hi:Option AV)(k:AV->Prop):AV->Prop
 | .view id f n s (some m)=>aJ P t=some s/\f<=m/\tV n (m-f) lo hi fun l h=>k (.view id (f+l) (h-l) s (some m))
 | .view id f n s none=>aJ P t=some s/\tV n n lo hi fun l h=>k (.view id (f+l) (h-l) s none)
 | .p .nil=>(aJ P t).isSome=true/\tV 0 0 lo hi fun _ _=>k (.p .nil)
 |x=>fM P t lo hi k x.nm
def RF(P:Program)(t:TypeId)(k:AV->Prop)(lo hi mx:AV):AV->Prop
 | .view _ _ n _ _=>(match lo,hi,mx with
  | .p (.sc (.int _ l)),.p (.sc (.int _ h)),.p (.sc (.int _ m))=>(aJ P t).isSome=true/\0<=l/\l<=h/\h<=m/\m<=(n:Int)/\k .any
  |_,_,_=>False)
 |x=>(match x.nm,lo,hi,mx with
  | .p (.sl xs),.p (.sc (.int _ l)),.p (.sc (.int _ h)),.p (.sc (.int _ m))=>(aJ P t).isSome=true/\(∀y∈xs,aJ P t=some y.width)/\0<=l/\l<=h/\h=m/\m<=(xs.length:Int)/\k (.full ((xs.take h.toNat).drop l.toNat))
  |_,_,_,_=>False)
def yL(P:Program)(t:TypeId)(k:AV->Prop):AV->Prop
 | .view _ _ n _ _=>(aJ P t).isSome=true/\k (.p (.int n))
 |x=>td P t k x.nm
def A3(P:Program)(t:TypeId)(k:AV->Prop):AV->Prop
 | .view _ f _ _ (some m)=>(aJ P t).isSome=true/\k (.p (.int ((m-f:Nat):Int)))
 | .p .nil=>(aJ P t).isSome=true/\k (.p (.int 0))
 | .full xs=>(aJ P t).isSome=true/\k (.p (.int xs.length))
 |_=>False
def gI(P:Program)(op:Op)(e:Operand->AV)(k:AV->Prop):Prop:=match op with
 | .indexAddr t x i=>(match x with
  | .global 0=>glW P t k (e i).nm
  |x=>Om P t k (e x) (e i))
 | .slice t x lo hi none=>xN P t (lo.map fun y=>(e y).nm) (hi.map fun y=>(e y).nm) k (e x)
 | .slice t x none (some hi) (some mx)=>RF P t k (.p (.int 0)) (e hi).nm (e mx).nm (e x)
 | .slice t x (some lo) (some hi) (some mx)=>RF P t k (e lo).nm (e hi).nm (e mx).nm (e x)
 | .call c=>(match c.callee with
  | .builtin .len=>c.args.size=1/\c.argTypes.size=1/\yL P (c.argTypes.getD 0 0) k (e (c.args.getD 0 (.tmp 0)))
  | .builtin .cap=>c.args.size=1/\c.argTypes.size=1/\A3 P (c.argTypes.getD 0 0) k (e (c.args.getD 0 (.tmp 0)))
  |_=>Oj P (.call c) e k)
 |op=>Oj P op e k
section
variable{P:Program}{sl:Nat->AV}{o:Oper}
theorem XK{c:Call}{x:Operand}{t:TypeId}(ho:o.op= .call c)(hc:c.callee= .builtin .cap)(ha:c.args=#[x])(hts:c.argTypes=#[t])(hx:bH sl x= .p .nil)(ht:(aJ P t).isSome=true):cO P sl o (.p (.int 0)):=dj fun w0 M0 F tb g a w hw h=>by
 have e1:=h x (by rw[ho];simp[Op.operands,Call.operands,hc,ha]);rw[hx]at e1;obtain⟨el,hU⟩:=Ew ht;have e1:=bf e1;generalize hv:a.eval x=v at e1;cases e1;exact⟨.int .i64 0,by simp[execOp,ho,resolve,hc,ha,hts,invoke,builtin,hv,Builtin.cap_,run_underlying hU,goInt],.p (.sc _ rfl)⟩
theorem XL{c:Call}{x:Operand}{t:TypeId}{xs:List PC}(ho:o.op= .call c)(hc:c.callee= .builtin .cap)(ha:c.args=#[x])(hts:c.argTypes=#[t])(hx:bH sl x= .full xs)(ht:(aJ P t).isSome=true):cO P sl o (.p (.int xs.length)):=dj fun w0 M0 F tb g a w hw h=>by
 have e1:=h x (by rw[ho];simp[Op.operands,Call.operands,hc,ha]);rw[hx]at e1;obtain⟨el,hU⟩:=Ew ht;generalize hv:a.eval x=v at e1;cases e1 with
 |full hr=>
  rename_i ad n;have hn:n=xs.length:=by
   cases hr with
   |dg=>rfl
   |p_ a=>rfl
   |sl hn _ _ _ _ _ _ hs=>rw[<-hn,hs.length]
  subst hn;exact⟨.int .i64 xs.length,by simp[execOp,ho,resolve,hc,ha,hts,invoke,builtin,hv,Builtin.cap_,run_underlying hU,goInt],.p (.sc _ rfl)⟩
theorem ahw{t:TypeId}{x:Operand}{lo hi:Option Operand}{l h:Nat}(ho:o.op= .slice t x lo hi none)(hx:bH sl x= .p .nil)(hsz:(aJ P t).isSome=true)(hlo:match lo.map (fun y=>(bH sl y).nm)with|none=>l=0|some (.p (.sc (.int _ i)))=>i=(l:Int)|_=>False)(hhi:match hi.map (fun y=>(bH sl y).nm)with|none=>h=0|some (.p (.sc (.int _ i)))=>i=(h:Int)|_=>False)(h1:l<=h)(h2:h<=0):cO P sl o (.p .nil):=dj fun w0 M0 F tb g a w hw hr=>by
 have h3:=hr x (by simp[ho,Op.operands]);rw[hx]at h3;have h3:=bf h3;generalize hv:a.eval x=v at h3;have b1:=lz (fun y e=>bU (hr y (by simp[ho,Op.operands,e]))) hlo;have b2:=lz (fun y e=>bU (hr y (by simp[ho,Op.operands,e]))) hhi;obtain⟨s,hs⟩:=Option.isSome_iff_exists.1 hsz;obtain⟨el,hU,hs⟩:=gN hs;obtain rfl:h=0:=by omega
 obtain rfl:l=0:=by omega
 cases h3;have hb:=mO (P:=P) (Tt:=true) (n:=0) (cap:=0) b1 b2 h1 (by omega) w;exact⟨.slice none 0 0,by simp[execOp,ho,hv,Instr.sliceAt,Instr.slice,run_underlying hU,hb,run_sizeOf hs],.p .nil⟩
theorem ow{n cap l h m:Nat}{lo:Option Value}{k1 k2:IntKind}(hlo:(lo=none/\l=0)\/∃k,lo=some (.int k l))(h1:l<=h)(h2:h<=m)(h3:m<=cap)(w:World):(Instr.sliceBounds true n cap lo (some (.int k1 h)) (some (.int k2 m))).run P w= .ok (l,h,m) w:=by
 unfold Instr.sliceBounds;rcases hlo with⟨rfl,rfl⟩|⟨k,rfl⟩
 ·simp[Instr.sliceBound,asIntOf,show m<=cap by omega,show h<=m by omega]
 ·simp[Instr.sliceBound,asIntOf,show m<=cap by omega,show h<=m by omega,show l<=h by omega]
theorem MG{t:TypeId}{x:Operand}{lo:Option Operand}{hi mx:Operand}{id f n s:Nat}{m:Option Nat}{l h c:Nat}{k1 k2:IntKind}(ho:o.op= .slice t x lo (some hi) (some mx))(hx:bH sl x= .view id f n s m)(hsz:(aJ P t).isSome=true)(hlo:(lo=none/\l=0)\/∃y k,lo=some y/\(bH sl y).nm= .p (.sc (.int k l)))(hhi:(bH sl hi).nm= .p (.sc (.int k1 h)))(O0:(bH sl mx).nm= .p (.sc (.int k2 c)))(h1:l<=h)(h2:h<=c)(h3:c<=n):cO P sl o .any:=dj fun w0 M0 F tb g a w hw hr=>by
 have e1:=hr x (by simp[ho,Op.operands]);rw[hx]at e1;have e2:=bU (hr hi (by cases lo<;>simp[ho,Op.operands]));rw[hhi]at e2;have e3:=bU (hr mx (by cases lo<;>simp[ho,Op.operands]));rw[O0]at e3;have e2:=bI e2;have e3:=bI e3;have e4:(lo.map a.eval=none/\l=0)\/∃k,lo.map a.eval=some (.int k l):=by
  rcases hlo with⟨rfl,rfl⟩|⟨y,k,rfl,hy⟩
  ·exact .inl ⟨rfl,rfl⟩
  ·have:=bU (hr y (by simp[ho,Op.operands]));rw[hy]at this;exact .inr ⟨k,by simp[bI this]⟩
 obtain⟨s',hs'⟩:=Option.isSome_iff_exists.1 hsz;obtain⟨el,hU,hs⟩:=gN hs';generalize hv:a.eval x=v at e1;cases e1 with
 |view e h4 h5 h6 hm=>
  rename_i b cc ad;have hb:=ow (P:=P) (n:=n) (cap:=cc-f) (k1:=k1) (k2:=k2) e4 h1 h2 (by omega) w;exact⟨.slice (if c=l then ad else Option.map (fun x=>x.add (l*s')) ad) (h-l) (c-l),by simp[execOp,ho,hv,e2,e3,Instr.sliceAt,Instr.slice,run_underlying hU,hb,run_sizeOf hs],.any _⟩
theorem MH{t:TypeId}{x:Operand}{lo:Option Operand}{hi mx:Operand}{xs:List PC}{l h:Nat}{k1 k2:IntKind}(ho:o.op= .slice t x lo (some hi) (some mx))(hx:(bH sl x).nm= .p (.sl xs))(hsz:(aJ P t).isSome=true)(Du:∀y∈xs,aJ P t=some y.width)(hlo:(lo=none/\l=0)\/∃y k,lo=some y/\(bH sl y).nm= .p (.sc (.int k l)))(hhi:(bH sl hi).nm= .p (.sc (.int k1 h)))(O0:(bH sl mx).nm= .p (.sc (.int k2 h)))(h1:l<=h)(h3:h<=xs.length):cO P sl o (.full ((xs.take h).drop l)):=dj fun w0 M0 F tb g a w hw hr=>by
 have e1:=bU (hr x (by simp[ho,Op.operands]));rw[hx]at e1;have e2:=bU (hr hi (by cases lo<;>simp[ho,Op.operands]));rw[hhi]at e2;have e3:=bU (hr mx (by cases lo<;>simp[ho,Op.operands]));rw[O0]at e3;have e2:=bI e2;have e3:=bI e3;have e4:(lo.map a.eval=none/\l=0)\/∃k,lo.map a.eval=some (.int k l):=by
  rcases hlo with⟨rfl,rfl⟩|⟨y,k,rfl,hy⟩
  ·exact .inl ⟨rfl,rfl⟩
  ·have:=bU (hr y (by simp[ho,Op.operands]));rw[hy]at this;exact .inr ⟨k,by simp[bI this]⟩
 obtain⟨es,zS⟩:=Option.isSome_iff_exists.1 hsz;obtain⟨el,hU,hs⟩:=gN zS;have e1:=bf e1;generalize hv:a.eval x=v at e1;cases e1 with
 |dg=>
  simp at h3;obtain rfl:h=0:=by omega
  obtain rfl:l=0:=by omega
  have hb:=ow (P:=P) (n:=0) (cap:=0) (k1:=k1) (k2:=k2) e4 h1 (Nat.le_refl 0) (by omega) w;simp only[Int.natCast_zero]at hb e2 e3;exact⟨.slice none 0 0,by simp[execOp,ho,hv,e2,e3,Instr.sliceAt,Instr.slice,run_underlying hU,hb,run_sizeOf hs],by simpa using aZ.full (g:=g) (a:=none) (n:=0) .dg⟩
 |p_ ad=>
  simp at h3;obtain rfl:h=0:=by omega
  obtain rfl:l=0:=by omega
  have hb:=ow (P:=P) (n:=0) (cap:=0) (k1:=k1) (k2:=k2) e4 h1 (Nat.le_refl 0) (by omega) w;simp only[Int.natCast_zero]at hb e2 e3;exact⟨.slice (some ad) 0 0,by simp[execOp,ho,hv,e2,e3,Instr.sliceAt,Instr.slice,run_underlying hU,hb,run_sizeOf hs],by simpa using aZ.full (g:=g) (a:=some ad) (n:=0) (.p_ ad)⟩
 |sl hl hc hm hs0 hu h1c dS oe=>
  rename_i b off n cap sz us;have hlx:=oe.length;have hn:n=xs.length:=by omega
  have hb:=ow (P:=P) (n:=n) (cap:=cap) (k1:=k1) (k2:=k2) e4 h1 (Nat.le_refl h) (by omega) w;have Vl:0<xs.length->es=sz:=fun hp=>by
   have hy:=Du (xs[0]'hp) (List.getElem_mem hp)
   obtain⟨u,yy,Dv⟩:=oe.get (i:=0) (List.getElem?_eq_getElem hp);have:u.cells.size=sz:=hu u (List.mem_of_getElem? yy);rw[oX Dv]at this;rw[zS]at hy;injection hy with hy;omega
  have hoff:(if h=l then(some (⟨b,off,none⟩:Addr))else some ⟨b,off+l*es,none⟩)=some ⟨b,off+(if h=l then 0 else l*es),none⟩:=by split<;>simp
  refine⟨.slice (some ⟨b,off+(if h=l then 0 else l*es),none⟩) (h-l) (h-l),?_,.full ?_⟩
  ·rw[<-hoff];simp[execOp,ho,hv,e2,e3,Instr.sliceAt,Instr.slice,run_underlying hU,hb,run_sizeOf hs,Addr.add_lit]
  ·have nw:∀u∈(us.take h).drop l,u.cells.size=sz:=fun u JD=>hu u (List.mem_of_mem_take (List.mem_of_mem_drop JD));refine .sl (sz:=sz) (us:=(us.take h).drop l) (by simp;omega) (by omega) (by omega) hs0 nw (fun v hv=>h1c v (by
    obtain⟨u,yy,Dv⟩:=List.mem_flatMap.1 hv;exact List.mem_flatMap.2 ⟨u,List.mem_of_mem_take (List.mem_of_mem_drop yy),Dv⟩)) ?_ ((oe.take h).drop l)
   by_cases gR:h=l
   ·have:(us.take h).drop l=[]:=by apply List.drop_eq_nil_of_le;simp;omega
    rw[this];intro j v e;simp[cellsOf]at e
   ·rw[if_neg gR,Vl (by omega)];refine At.sub dS (fun j v e=>?_);have ana:∀u∈us.take h,u.cells.size=sz:=fun u JD=>hu u (List.mem_of_mem_take JD);exact qN us hu h _ v (qO (us.take h) ana l (by simp;omega) j v e)
theorem MI{j:Nat}(h:j<16):kn[j]?=some (kn.getD j 0):=by
 have:j<kn.length:=h;rw[List.getElem?_eq_getElem this];simp[List.getD,this]
theorem anb{t:TypeId}{i:Operand}{kd:IntKind}{n:Int}(ho:o.op= .indexAddr t (.global 0) i)(hi:(bH sl i).nm= .p (.sc (.int kd n)))(hA:gL P t=some (16,1,false))(h0:0<=n)(hn:n<16):cO P sl o (.p (.ref (.sc (.int .u32 ((kn.getD n.toNat 0:Nat):Int))))):=bK fun w0 M0 F tb g a w hw h=>by
 have e2:=h i (by simp[ho,Op.operands]);rw[hi]at e2;have e2:=bI e2;obtain⟨m,rfl⟩:=Int.eq_ofNat_of_zero_le h0;have hm:m<16:=by omega
 refine⟨.pointer (some ⟨0,m,none⟩),?_,?_⟩
 ·unfold gL at hA;split at hA
  ·rename_i m' e hU;split at hA
   ·rename_i s' a' hs' G5;injection hA with hA;obtain⟨rfl,rfl,rfl⟩:=by simpa using hA
    have ev:a.eval (.global 0)= .pointer (some ⟨0,0,none⟩):=rfl;simp[execOp,ho,ev,e2,Instr.indexAt,asIntOf,run_underlying hU,Instr.sureAddr,hm,run_sizeOf hs',Addr.add_lit]
   ·cases hA
  ·cases hA
 ·refine .p (.ref (u:= .int .u32 ((kn.getD m 0:Nat):Int)) (fun j v ej=>?_) (.sc _ rfl));simp only[Value.cells]at ej;cases j with
  |succ j=>simp at ej
  |zero=>
   simp at ej;subst ej;exact hw.holds.g m _ (MI hm)
theorem A4{k:AV->Prop}(h:gI P o.op (bH sl) k):∃x,k x/\cO P sl o x:=by
 unfold gI at h;split at h
 ·rename_i t x i ho;split at h
  ·unfold glW at h;split at h
   ·rename_i c n hi;obtain⟨h1,h2,h3,h⟩:=h;exact⟨_,h,anb ho hi h1 h2 h3⟩
   ·exact h.elim
  unfold Om at h;split at h
  ·rename_i id f n s m hx;split at h
   ·rename_i kd j hi;obtain⟨h1,h2,h3,h⟩:=h;exact⟨_,h,ahx ho hx hi h1 h2 h3⟩
   ·exact h.elim
  ·rename_i id off hx;split at h
   ·rename_i kd j m s a hi hf;obtain⟨h1,h2,h⟩:=h;exact⟨_,h,afs ho hx hi hf h1 h2⟩
   ·exact h.elim
  ·exact se (by rw[ho];exact h)
 ·rename_i t x lo hi ho;unfold xN at h;split at h
  ·rename_i id f n s m hx;obtain⟨h1,hfm,h⟩:=h;unfold tV at h;split at h
   ·rename_i l hh e1 e2;obtain⟨c1,c2,h4,h5,h6⟩:=h;exact⟨_,h6,Uu ho hx h1 (lU e1 c1) (lU e2 c2) h4 (.inr ⟨m,rfl,by omega⟩)⟩
   ·exact h.elim
  ·rename_i id f n s hx;obtain⟨h1,h⟩:=h;unfold tV at h;split at h
   ·rename_i l hh e1 e2;obtain⟨c1,c2,h4,h5,h6⟩:=h;exact⟨_,h6,Uu ho hx h1 (lU e1 c1) (lU e2 c2) h4 (.inl h5)⟩
   ·exact h.elim
  ·rename_i hx;obtain⟨h1,h⟩:=h;unfold tV at h;split at h
   ·rename_i l hh e1 e2;obtain⟨c1,c2,h4,h5,h6⟩:=h;exact⟨_,h6,ahw ho hx h1 (lU e1 c1) (lU e2 c2) h4 h5⟩
   ·exact h.elim
  ·exact se (by rw[ho];exact h)
 ·rename_i t x hi mx ho;unfold RF at h;split at h
  ·rename_i id f n s m hx;split at h
   ·rename_i kl l kh h' km m' hl hh hm;obtain⟨h1,h2,h3,h4,h5,h⟩:=h;injection hl with hl;injection hl with hl;injection hl with pR G6;subst G6;exact⟨_,h,MG (l:=0) (h:=h'.toNat) (c:=m'.toNat) ho hx h1 (.inl ⟨rfl,rfl⟩) (by rw[hh,Int.toNat_of_nonneg (by omega)]) (by rw[hm,Int.toNat_of_nonneg (by omega)]) (by omega) (by omega) (by omega)⟩
   ·exact h.elim
  ·split at h
   ·rename_i xs kl l kh h' km m' hx hl hh hm;obtain⟨h1,h2,h3,h4,h5,h6,h⟩:=h;injection hl with hl;injection hl with hl;injection hl with pR G6;subst G6;subst h5;exact⟨_,h,MH (l:=0) (h:=h'.toNat) ho hx h1 h2 (.inl ⟨rfl,rfl⟩) (by rw[hh,Int.toNat_of_nonneg (by omega)]) (by rw[hm,Int.toNat_of_nonneg (by omega)]) (by omega) (by omega)⟩
   ·exact h.elim
 ·rename_i t x lo hi mx ho;unfold RF at h;split at h
  ·rename_i id f n s m hx;split at h
   ·rename_i kl l kh h' km m' hl hh hm;obtain⟨h1,h2,h3,h4,h5,h⟩:=h;exact⟨_,h,MG (l:=l.toNat) (h:=h'.toNat) (c:=m'.toNat) ho hx h1 (.inr ⟨lo,kl,rfl,by rw[hl,Int.toNat_of_nonneg (by omega)]⟩) (by rw[hh,Int.toNat_of_nonneg (by omega)]) (by rw[hm,Int.toNat_of_nonneg (by omega)]) (by omega) (by omega) (by omega)⟩
   ·exact h.elim
  ·split at h
   ·rename_i xs kl l kh h' km m' hx hl hh hm;obtain⟨h1,h2,h3,h4,h5,h6,h⟩:=h;subst h5;exact⟨_,h,MH (l:=l.toNat) (h:=h'.toNat) ho hx h1 h2 (.inr ⟨lo,kl,rfl,by rw[hl,Int.toNat_of_nonneg (by omega)]⟩) (by rw[hh,Int.toNat_of_nonneg (by omega)]) (by rw[hm,Int.toNat_of_nonneg (by omega)]) (by omega) (by omega)⟩
   ·exact h.elim
 ·rename_i c ho;split at h
  ·rename_i hc;obtain⟨h1,h2,h⟩:=h;have ea:=lD h1 (.tmp 0);have et:=lD h2 0;unfold yL at h;split at h
   ·rename_i hx;exact⟨_,h.2,XM ho hc ea et hx h.1⟩
   ·exact se (by rw[ho];unfold Oj G8;simp only[hc];exact⟨h1,h2,h⟩)
  ·rename_i hc;obtain⟨h1,h2,h⟩:=h;have ea:=lD h1 (.tmp 0);have et:=lD h2 0;unfold A3 at h;split at h
   ·rename_i hx;exact⟨_,h.2,XN ho hc ea et hx h.1⟩
   ·rename_i hx;exact⟨_,h.2,XK ho hc ea et hx h.1⟩
   ·rename_i hx;exact⟨_,h.2,XL ho hc ea et hx h.1⟩
   ·exact h.elim
  ·exact se (by rw[ho];exact h)
 ·exact se h
end
section
variable{P:Program}{st:AS}{o:Oper}
theorem Is{c:Call}{x y:Operand}{t u e:TypeId}{id f n s m bV k:Nat}{ob:Ob}{zs:List AV}(ho:o.op= .call c)(hc:c.callee= .builtin .append)(ha:c.args=#[x,y])(hts:c.argTypes=#[t,u])(hx:bH st.sl x= .view id f n s (some m))(hl:lk id st.tb.bx=some ob)(hsz:ob.sz=s)(hel:cV P t=some (e,s,bV))(hf:(f+n)*s<=ob.xs.length)(hroom:f+n+k<=m)(hzl:zs.length=k*s)(hsrc:∀(w0:World) (M0:Mem) (F:Nat->Prop) (g:G) (v:Value) (w:World),aR w0 M0 F st.tb g w->aZ g v (bH st.sl y)->∃cs,Src P u s v k cs w/\aL g cs zs):dx P st o (.view id f (n+k) s (some m)) (st.tb.aQ id {ob with xs:=ob.xs.take ((f+n)*s)++zs++ob.xs.drop ((f+n)*s+k*s)}):=bQ fun w0 M0 F g a w hw h=>by
 have h1:=h x (by rw[ho];simp[Op.operands,Call.operands,hc,ha]);rw[hx]at h1;have h2:=h y (by rw[ho];simp[Op.operands,Call.operands,hc,ha]);obtain⟨cs,hsrc,hz⟩:=hsrc w0 M0 F g _ w hw h2;obtain⟨hU,i,z,hi,_,mY,qu,hzs⟩:=fk hel;generalize hv:a.eval x=v at h1;cases h1 with
 |view e h3 h4 h5 hm=>
  rename_i b cc ad;obtain rfl:=hm _ rfl;have we:wo (ad.map fun a=>a.add (n*s)) b cc (f+n) s:=by
   cases h5 with
   |real off gH had h5=>
    subst had;refine .real (off+n*s) gH (by simp[Addr.add_lit]) fun hh=>?_;rw[h5 (by omega),Nat.add_mul]
   |void h0 s_=>
    refine .void h0 ?_;rcases s_ with rfl|⟨a',rfl⟩
    ·exact .inl rfl
    ·exact .inr ⟨_,rfl⟩
  obtain⟨w',r1,r0,r2⟩:=kY (P:=P) (f:=f+n) (n:=k) (k:=k) hw hl e hsz hroom we hz hsrc.one (Nat.le_refl _) hzl hf;rw[hzl]at r2;refine⟨.slice ad (n+k) (cc-f),w',g,?_,G.le_refl g,r2,.view e (by omega) h4 h5 hm⟩;rw[cT ho hc ha hts,hv];obtain⟨q1,q2,q3,_,_,_⟩:=hsrc;have hfit:n+k<=cc-f:=by omega
  subst mY;have:(Builtin.append_ #[t,u] o.type #[.slice ad n (cc-f),a.eval y]).run P w= .ok (.slice ad (n+k) (cc-f)) w':=by
   cases ad with
   |none=>
    obtain rfl:=r0 rfl;rcases q1 with⟨e',q1⟩|q1<;>simp[Builtin.append_,run_underlying hU,run_underlying q1,sizeOf,typeInfo,hi,q2,hfit,q3]
   |some ad=>
    have r1:=r1 _ rfl;rcases q1 with⟨e',q1⟩|q1<;>simp[Builtin.append_,run_underlying hU,run_underlying q1,sizeOf,typeInfo,hi,q2,hfit,q3,r1]
  rw[this];rfl
theorem ahS{u:TypeId}{s:Nat}{ys:List PC}(hu:(aJ P u).isSome=true)(hw':∀y∈ys,y.width=s)(hn:∀y∈ys,cF y=true){w0:World}{M0:Mem}{F:Nat->Prop}{tb:Tb}{g:G}{v:Value}{w:World}(hw:aR w0 M0 F tb g w)(hv:aZ g v (.p (.sl ys))):∃cs,Src P u s v ys.length cs w/\aL g cs (ys.flatMap aV):=by
 obtain⟨ad,cap,us,jJ⟩:=nc (bf hv);exact⟨_,Cv (P:=P) hu jJ hw' (w:=w) hw.holds,nh jJ.nw hn⟩
theorem tW{s:Nat}:∀(l:List PC),(∀y∈l,y.width=s)->(l.flatMap aV).length=l.length*s
 |[],_=>by simp
 |z::l,h=>by
  have hz:=h z (by simp);have e:(aV z).length=s:=by
   rw[<-hz];cases z with
   |agg b l=>cases b<;>simp[aV,PC.width]
   |_=>rfl
  simp only[List.flatMap_cons,List.length_append,List.length_cons];rw[tW l fun q hq=>h q (by simp[hq]),e,Nat.succ_mul];omega
end
section
variable{P:Program}{st:AS}{o:Oper}
theorem zl{z:Array Value}(h:∀v∈z.toList,v.oneCell'=true){n:Nat}:∀v∈(Builtin.zeroCells z n).toList,v.oneCell'=true:=by
 intro v hv;rcases Nat.eq_zero_or_pos z.size with h0|h0
 ·have:(Builtin.zeroCells z n).toList=[]:=List.eq_nil_of_length_eq_zero (by simp[size_zeroCells,h0]);rw[this]at hv;cases hv
 ·rw[mX h0,List.mem_flatten]at hv;obtain⟨l,hl,hv⟩:=hv;rw[List.mem_replicate]at hl;rw[hl.2]at hv;exact h v hv
theorem tJ{t u ty e:TypeId}{s bV n cap k:Nat}{w0:World}{M0:Mem}{F:Nat->Prop}{tb:Tb}{g:G}{w:World}(hw:aR w0 M0 F tb g w)(hel:cV P t=some (e,s,bV)){ad:Option Addr}{y:Value}{olds news:List Value}{zo zs:List AV}(hold:(Builtin.firstCells s n (.slice ad n cap)).run P w.drew= .ok olds.toArray w.drew)(ho:aL g olds zo)(ho1:∀v∈olds,v.oneCell'=true)(yt:zo.length=n*s)(hsrc:Src P u s y k news w)(hz:aL g news zs)(hgrow:cap<n+k)(hbound:(n+k)*bV<=140737488355328)(gG:n+k<=9223372036854775807):∃v' w' g',(Builtin.append_ #[t,u] ty #[.slice ad n cap,y]).run P w= .ok v' w'/\g.le g'/\aR w0 M0 F (tb.aT ⟨e,s,zo++zs⟩) g' w'/\aZ g' v' (.view tb.nx 0 (n+k) s none):=by
 obtain⟨hU,i,z,hi,yI,mY,qu,hzs⟩:=fk hel;subst mY;have hfit:Builtin.nextslicecap (n+k) cap*i.bytes<=281474976710656:=growslice_fits hgrow (by rw[qu];exact hbound);have hrun:=rC (P:=P) (ty:=ty) hU hi yI rfl hold hsrc hgrow gG hfit;have hge:=grownCap_ge w (n+k) cap e;have Uf:=grownCap_le_maxLen w (n+k) cap e (by unfold maxLen;omega);generalize grownCap w (n+k) cap e=C at*;have hlo:=ho.length;have hlz:=hz.length;have QO:=hsrc.num;have vO:(olds.toArray++news.toArray++Builtin.zeroCells z.cells (C-(n+k))).size=C*i.size:=by
  simp only[Array.size_append,List.size_toArray,size_zeroCells,hzs,hlo,yt,QO];rw[<-Nat.add_mul,<-Nat.add_mul];congr 1;omega
 have hB:Below w.drew.heap.size w.drew (w.drew.alloc (.cells (olds.toArray++news.toArray++Builtin.zeroCells z.cells (C-(n+k))) e)):=(Below.refl _ _).alloc (Nat.le_refl _) _;have hlen:(zo++zs).length=(olds++news).length:=by simp[hlo,hlz]
 have rX:(olds.toArray++news.toArray++Builtin.zeroCells z.cells (C-(n+k))).toList.take (zo++zs).length=olds++news:=by
  rw[hlen];simp only[Array.toList_append];rw[List.take_append_of_le_length (by simp)];exact List.take_of_length_le (by simp)
 have hle:(zo++zs).length<=(olds.toArray++news.toArray++Builtin.zeroCells z.cells (C-(n+k))).size:=by rw[hlen];simp only[Array.size_append,List.size_toArray,List.length_append];omega
 have key:=hw.drew.yV (o:=⟨e,i.size,zo++zs⟩) (c:=C) hB (heap_alloc_new w.drew _) vO Uf hle (by rw[rX];exact ho.append hz) (by
  intro v hv;simp only[Array.toList_append,List.mem_append]at hv;rcases hv with(hv|hv)|hv
  ·exact ho1 v (by simpa using hv)
  ·exact hsrc.one v (by simpa using hv)
  ·exact zl (LM hel hi yI) v hv)
 exact⟨_,_,_,hrun,hw.drew.kF _ _,key,by
  have:=aZ.view (g:=g.di tb.nx w.drew.heap.size C) (id:=tb.nx) (b:=w.drew.heap.size) (c:=C) (o:=0) (n:=n+k) (s:=i.size) (a:=some ⟨w.drew.heap.size,0,none⟩) (m:=none) (by simp[G.di]) (by omega) Uf (.real 0 (by omega) rfl (fun _=>by simp)) (by simp);simpa using this⟩
end
end Go.Av
