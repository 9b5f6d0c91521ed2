/- DiskShapes, part 4: an abstract interpreter over any program's form, with its proof of soundness; no condition. -/
import Derived.Test.YtgkdpbambfgahaaGreatDoorWac
import Derived.Laws.MakeOwn
set_option linter.all false
set_option maxRecDepth 100000
set_option maxHeartbeats 64000000
namespace Go.Av
open Go.RowKit
section
variable{P:Program}{sl:Nat->AV}{o:Oper}{st:AS}
theorem ie{t:TypeId}{s:Nat}(h:aH P t=some s):∃el,P.underlying t=some (.slice el)/\aO P el=some s:=by
 unfold aH at h;split at h
 ·rename_i el hU;exact⟨el,hU,h⟩
 ·cases h
theorem XW{c:Call}{x:Operand}{t:TypeId}{id f n s:Nat}{m:Option Nat}(ho:o.op= .call c)(hc:c.callee= .builtin .len)(ha:c.args=#[x])(hts:c.argTypes=#[t])(hx:bE sl x= .view id f n s m)(ht:(aH P t).isSome=true):cP P sl o (.p (.int n)):=dx fun w0 M0 F tb g a w hw h=>by
 have e1:=h x (by rw[ho];simp[Op.operands,Call.operands,hc,ha]);rw[hx]at e1;obtain⟨el,hU⟩:=Gw ht;generalize hv:a.eval x=v at e1;cases e1 with
 |view e h3 h4 h5 hm=>exact⟨.int .i64 n,by simp[execOp,ho,resolve,hc,ha,hts,invoke,builtin,hv,Builtin.len_,run_underlying hU,goInt],.p (.sc _ rfl)⟩
theorem XY{c:Call}{x:Operand}{t:TypeId}{id f n s m:Nat}(ho:o.op= .call c)(hc:c.callee= .builtin .cap)(ha:c.args=#[x])(hts:c.argTypes=#[t])(hx:bE sl x= .view id f n s (some m))(ht:(aH P t).isSome=true):cP P sl o (.p (.int ((m-f:Nat):Int))):=dx fun w0 M0 F tb g a w hw h=>by
 have e1:=h x (by rw[ho];simp[Op.operands,Call.operands,hc,ha]);rw[hx]at e1;obtain⟨el,hU⟩:=Gw ht;generalize hv:a.eval x=v at e1;cases e1 with
 |view e h3 h4 h5 hm=>obtain rfl:=hm _ rfl;exact⟨.int .i64 (((_:Nat)-f:Nat):Int),by simp[execOp,ho,resolve,hc,ha,hts,invoke,builtin,hv,Builtin.cap_,run_underlying hU,goInt],.p (.sc _ rfl)⟩
theorem ad6{t:TypeId}{x i:Operand}{id f n s:Nat}{m:Option Nat}{kd:IntKind}{j:Int}(ho:o.op= .indexAddr t x i)(hx:bE sl x= .view id f n s m)(hi:(bE sl i).nm= .p (.sc (.int kd j)))(h0:0<=j)(hn:j<(n:Int))(hsz:aH P t=some s):cP P sl o (.obj id ((f+j.toNat)*s)):=dx fun w0 M0 F tb g a w hw h=>by
 have h1:=h x (by simp[ho,Op.operands]);rw[hx]at h1;have h2:=bP (h i (by simp[ho,Op.operands]));rw[hi]at h2;have Ad:=aZ h2;generalize hv:a.eval x=v at h1;generalize yf:a.eval i=v2 at Ad;cases Ad;obtain⟨el,hU,hs⟩:=ie hsz;cases h1 with
 |view e h3 h4 h5 hm=>
  rename_i b cc ad;cases h5 with
  |void h0 _=>omega
  |real off g_ had h5=>
  subst had;obtain rfl:=h5 (.inl (by omega));refine⟨.pointer (some ⟨b,(f+j.toNat)*s,none⟩),?_,.obj e⟩;simp[execOp,ho,hv,yf,Instr.indexAt,asIntOf,run_underlying hU,h0,hn,run_sizeOf hs,Addr.add_lit,Nat.add_mul]
theorem U3{t:TypeId}{x:Operand}{lo hi:Option Operand}{id f n s l h:Nat}{m:Option Nat}(ho:o.op= .slice t x lo hi none)(hx:bE sl x= .view id f n s m)(hsz:aH P t=some s)(hlo:match lo.map (fun y=>(bE sl y).nm)with|none=>l=0|some (.p (.sc (.int _ i)))=>i=(l:Int)|_=>False)(hhi:match hi.map (fun y=>(bE sl y).nm)with|none=>h=n|some (.p (.sc (.int _ i)))=>i=(h:Int)|_=>False)(h1:l<=h)(h2:h<=n\/∃k,m=some k/\f+h<=k):cP P sl o (.view id (f+l) (h-l) s m):=dx fun w0 M0 F tb g a w hw hr=>by
 have h3:=hr x (by simp[ho,Op.operands]);rw[hx]at h3;generalize hv:a.eval x=v at h3;have b1:=nt (fun y e=>bP (hr y (by simp[ho,Op.operands,e]))) hlo;have b2:=nt (fun y e=>bP (hr y (by simp[ho,Op.operands,e]))) hhi;obtain⟨el,hU,hs⟩:=ie hsz;cases h3 with
 |view e h3 h4 h5 hm=>
  rename_i b cc ad;have h2:f+h<=cc:=by
   rcases h2 with h2|⟨k,hk,h2⟩
   ·omega
   ·rw[hm k hk];exact h2
  cases h5 with
  |void h0 uV=>
   subst h0;have hl0:l=0:=by omega
   have hh0:h=0:=by omega
   have hf0:f=0:=by omega
   subst hl0;subst hh0;subst hf0;have hb:=oL (P:=P) (Um:=true) (n:=n) (cap:=0) b1 b2 h1 (by omega) w;refine⟨.slice ad 0 0,?_,?_⟩
   ·simp[execOp,ho,hv,Instr.sliceAt,Instr.slice,run_underlying hU,hb,run_sizeOf hs]
   ·have:=aX.view (g:=g) (id:=id) (b:=b) (c:=0) (o:=0) (n:=0) (s:=s) (a:=ad) e (by omega) h4 (.void rfl uV) hm;simpa using this
  |real off g_ had h5=>
  subst had;have hb:=oL (P:=P) (Um:=true) (n:=n) (cap:=cc-f) b1 b2 h1 (by omega) w;refine⟨.slice (some ⟨b,off+(if cc-f=l then 0 else l*s),none⟩) (h-l) (cc-f-l),?_,?_⟩
  ·have hoff:(if cc-f=l then(some (⟨b,off,none⟩:Addr))else some ⟨b,off+l*s,none⟩)=some ⟨b,off+(if cc-f=l then 0 else l*s),none⟩:=by split<;>simp
   rw[<-hoff];simp[execOp,ho,hv,Instr.sliceAt,Instr.slice,run_underlying hU,hb,run_sizeOf hs,Addr.add_lit]
  ·have e2:cc-f-l=cc-(f+l):=by omega
   rw[e2];refine .view e (by omega) h4 (.real _ g_ rfl fun hh=>?_) hm;split
   ·rename_i hml;rcases hh with hh|hh
    ·omega
    ·have h0:=h5 (.inr (by omega));have:f+l=f:=by omega
     rw[this];simpa using h0
   ·rename_i hml;rw[h5 (.inl (by omega)),Nat.add_mul]
theorem vD{w0:World}{M0:Mem}{F:Nat->Prop}{tb:Tb}{g:G}{w:World}(hw:aQ w0 M0 F tb g w){id b c:Nat}{ob:Ob}(hl:lk id tb.bx=some ob)(he:g.ob id=some (b,c))(lo k:Nat)(hk:lo+k<=ob.xs.length):∃cs,cs.length=k/\(loadCells ⟨b,lo,none⟩ k).run P w= .ok cs.toArray w/\aJ g cs ((ob.xs.drop lo).take k)/\(∀v∈cs,v.oneCell'=true)/\(loadCells ⟨b,lo,none⟩ k).run P w.drew= .ok cs.toArray w.drew:=by
 have yZ:=hw.boxes id ob hl;by_cases FG:k=0
 ·subst FG;exact⟨[],rfl,by simp[loadCells,loadCellsFrom],by simpa using aJ.nil,by simp,by simp[loadCells,loadCellsFrom]⟩
 have g_:0<c:=yZ.pos he fun hz=>by rw[hz]at hk;simp at hk;omega
 obtain⟨cur,f2,f3,⟨tt,fz,f4,fo⟩,f5,f6,f7,f8,f9⟩:=yZ.real he g_;generalize b=b' at*;have cell:∀j u,cur[j]?=some u->w.cell? ⟨b',j,none⟩=some u:=fun j u e=>by unfold World.cell?;rw[f4];simpa using e
 have hls:((cur.toList.drop lo).take k).length=k:=by rw[List.length_take,List.length_drop];simp;omega
 have hrun:=run_loadCells_list (P:=P) w ⟨b',lo,none⟩ ((cur.toList.drop lo).take k) (fun j u e=>by
  rw[Addr.add_lit];rw[List.getElem?_take]at e;split at e
  ·rw[List.getElem?_drop]at e;exact cell _ _ (by simpa using e)
  ·cases e)
 rw[hls]at hrun;have Iw:=run_loadCells_list (P:=P) w.drew ⟨b',lo,none⟩ ((cur.toList.drop lo).take k) (fun j u e=>by
  rw[Addr.add_lit];rw[List.getElem?_take]at e;split at e
  ·rw[List.getElem?_drop]at e;exact cell _ _ (by simpa using e)
  ·cases e)
 rw[hls]at Iw;have e3:((cur.toList.take ob.xs.length).drop lo).take k=(cur.toList.drop lo).take k:=by
  rw[List.drop_take,List.take_take,Nat.min_eq_left (by omega)]
 refine⟨_,hls,hrun,?_,fun u hu=>f9 u ?_,Iw⟩
 ·have:=(f8.drop lo).take k;rw[e3]at this;exact this
 ·rw[<-e3]at hu;exact jH (List.mem_of_mem_drop (jH hu))
theorem K2{w0:World}{M0:Mem}{F:Nat->Prop}{tb:Tb}{g:G}{w:World}(hw:aQ w0 M0 F tb g w){id b c:Nat}{ob:Ob}(hl:lk id tb.bx=some ob)(he:g.ob id=some (b,c))(g_:0<c)(lo:Nat){cs:List Value}{zs:List AV}(hz:aJ g cs zs)(hone:∀v∈cs,v.oneCell'=true)(hk:lo<=ob.xs.length)(hc:lo+zs.length<=c*ob.sz):∃w',(storeCells ⟨b,lo,none⟩ cs).run P w= .ok () w'/\aQ w0 M0 F (tb.aP id {ob with xs:=ob.xs.take lo++zs++ob.xs.drop (lo+zs.length)}) g w':=by
 have f1':=he;obtain⟨cur,f2,f3,⟨tt,fz,f4,fo⟩,f5,f6,f7,f8,f9⟩:=(hw.boxes id ob hl).real he g_;generalize b=b' at*;have hlz:=hz.length;have hst:=gu P b' lo tt fz cs 0 cur w f4 fo.fz (by omega) hone;simp only[Nat.add_zero]at hst;refine⟨_,hst,?_⟩;have xR:((cur.toList.take lo++cs++cur.toList.drop (lo+cs.length)).toArray).toList.take (ob.xs.take lo++zs++ob.xs.drop (lo+zs.length)).length=(cur.toList.take ob.xs.length).take lo++cs++(cur.toList.take ob.xs.length).drop (lo+zs.length):=by
  have e1:(ob.xs.take lo++zs++ob.xs.drop (lo+zs.length)).length=(cur.toList.take lo++cs).length+(ob.xs.length-(lo+zs.length)):=by
   simp only[dU,List.length_take,List.length_drop,Array.length_toList];omega
  have e2:((cur.toList.take ob.xs.length).take lo)=cur.toList.take lo:=by rw[List.take_take,Nat.min_eq_left hk]
  rw[e1,List.take_length_add_append,e2,hlz,List.drop_take]
 refine hw.aP (o':={ob with xs:=ob.xs.take lo++zs++ob.xs.drop (lo+zs.length)}) hl f1' g_ f4 (by simp;omega) rfl rfl (by simp;omega) ?_ ?_
 ·show aJ g (List.take (ob.xs.take lo++zs++ob.xs.drop (lo+zs.length)).length _) _;rw[xR];exact((f8.take lo).append hz).append (f8.drop _)
 ·intro v hv;simp only[iR]at hv;rcases hv with(hv|hv)|hv
  ·exact f9 v (jH hv)
  ·exact hone v hv
  ·exact f9 v (List.mem_of_mem_drop hv)
end
def fW(n:Nat)(z:List PC):List PC:=(List.replicate n z).flatten
theorem qw(n:Nat)(z:List PC):(fW n z).length=n*z.length:=by simp[fW]
@[simp]theorem OO(n:Nat)(x:PC):fW n [x]=List.replicate n x:=by
 induction n with
 |zero=>rfl
 |succ n ih=>simp only[fW,List.replicate_succ,List.flatten_cons]at ih⊢;rw[ih];rfl
theorem rC{z:List Value}:∀(n:Nat) (cs:Array Value),cs.toList=(List.replicate n z).flatten->∀(M:Mem),(∀v∈z,v.oneCell'=true)->cJ M cs.toList (fW n (z.map c1))/\∀v∈cs.toList,v.oneCell'=true:=by
 intro n cs h M hz;rw[h];constructor
 ·unfold fW;clear h
  induction n with
  |zero=>exact .nil
  |succ n ih=>simp only[List.replicate_succ,List.flatten_cons];exact(tI M z hz).append ih
 ·intro v hv;obtain⟨l,hl,hv⟩:=List.mem_flatten.1 hv;rw[List.eq_of_mem_replicate hl]at hv;exact hz v hv
section
variable{P:Program}{sl:Nat->AV}{o:Oper}{st:AS}
theorem vN(z:Array Value)(hz:0<z.size):∀(n:Nat),(madeCells z (n*z.size)).toList=(List.replicate n z.toList).flatten
 |0=>by simp[madeCells]
 |n+1=>by
  have ih:=vN z hz n;have e:(madeCells z ((n+1)*z.size)).toList=(madeCells z (n*z.size)).toList++z.toList:=by
   simp only[madeCells,Array.toList_map,Array.toList_range];rw[Nat.succ_mul,List.range_add,List.map_append,List.map_map];congr 1;apply List.ext_getElem
   ·simp
   ·intro i h1 h2;have hi:i<z.size:=by simpa using h2
    simp only[List.getElem_map,List.getElem_range,Function.comp_apply];rw[Nat.add_comm,Nat.add_mul_mod_self_right,Nat.mod_eq_of_lt hi];simp[hi]
  rw[e,ih,List.replicate_succ',List.flatten_append];simp
theorem uo{e:TypeId}{z:List PC}(h:bG P e=some z){i:TypeInfo}(hi:P.info? e=some i):∃zv,i.zero=some zv/\z=zv.cells.toList.map c1/\∀v∈zv.cells.toList,v.oneCell'=true:=by
 obtain⟨j,zv,h1,h2,h3,h4⟩:=IE h;rw[hi]at h1;injection h1 with h1;subst h1;exact⟨zv,h2,h3,h4⟩
theorem ad1{t e:TypeId}{x y:Operand}{s bT n c:Nat}{kl kc:IntKind}{z:List PC}(ho:o.op= .makeSlice t x y)(ht:cU P t=some (e,s,bT))(hs:0<s)(hz:bG P e=some z)(hx:(bE st.sl x).nm= .p (.sc (.int kl n)))(hy:(bE st.sl y).nm= .p (.sc (.int kc c)))(hn:n<=c)(hb:bT*c<=281474976710656)(hc:c<=maxLen):dA P st o (.view st.tb.nx 0 n s (some c)) (st.tb.aS ⟨e,s,(fW c z).map .p⟩):=bK fun w0 M0 F g a w hw h=>by
 have h1:=bP (h x (by simp[ho,Op.operands]));rw[hx]at h1;have h2:=bP (h y (by simp[ho,Op.operands]));rw[hy]at h2;have h1:=bF h1;have h2:=bF h2;obtain⟨hU,i,zv,hi,Am,oW,sE,hzs⟩:=fK ht;obtain⟨U0,oC,rfl,hone⟩:=uo hz hi;rw[Am]at oC;injection oC with oC;subst oC;have hb':(i.bytes:Int)*(c:Int)<=281474976710656:=by rw[sE];have:=Int.ofNat_le.2 hb;simpa using this
 have Ji:(c:Int)<=9223372036854775807:=by unfold maxLen at hc;omega
 have hrun:=run_make (P:=P) w t e i zv hU hi Am kl kc n c (Int.natCast_nonneg n) (Int.ofNat_le.2 hn) hb' Ji;simp only[Int.toNat_natCast]at hrun;have uq:=vN zv.cells (by omega) c;have hsz:zv.cells.size=i.size:=by rw[oW,hzs]
 rw[hsz]at uq;have hB:Below w.heap.size w (w.alloc (.cells (madeCells zv.cells (c*i.size)) e)):=(Below.refl _ _).alloc (Nat.le_refl _) _;have hr:=rC c (madeCells zv.cells (c*i.size)) uq g.M hone;have hlen:((fW c (zv.cells.toList.map c1)).map AV.p).length=(madeCells zv.cells (c*i.size)).size:=by
  simp only[List.length_map,qw,size_madeCells,Array.length_toList,hsz]
 have t_:(madeCells zv.cells (c*i.size)).toList.take ((fW c (zv.cells.toList.map c1)).map AV.p).length=(madeCells zv.cells (c*i.size)).toList:=fY (by rw[hlen];simp);have key:=hw.AG (o:=⟨e,s,(fW c (zv.cells.toList.map c1)).map .p⟩) (cur:=madeCells zv.cells (c*i.size)) (c:=c) hB (heap_alloc_new w _) (by rw[size_madeCells,oW]) hc (by rw[hlen];exact Nat.le_refl _) (by rw[t_];exact jZ hr.1) hr.2;refine⟨.slice (some ⟨w.heap.size,0,none⟩) n c,_,_,?_,hw.mD _ _,key,?_⟩
 ·simp only[execOp,ho,h1,h2,Sem.run_bind,hrun];rfl
 ·have:=aX.view (g:=g.dw st.tb.nx w.heap.size c) (id:=st.tb.nx) (b:=w.heap.size) (c:=c) (o:=0) (n:=n) (s:=s) (a:=some ⟨w.heap.size,0,none⟩) (by simp[G.dw]) (by omega) hc (by
   rcases Nat.eq_zero_or_pos c with h0|h0
   ·exact .void h0 (.inr ⟨_,rfl⟩)
   ·exact .real 0 h0 rfl (fun _=>by simp)) (m:=some c) (fun k hk=>by injection hk)
  simpa using this
theorem Bx{w0:World}{M0:Mem}{F:Nat->Prop}{tb:Tb}{g:G}{w:World}(hw:aQ w0 M0 F tb g w){id b c f n s off k:Nat}{ob:Ob}(hl:lk id tb.bx=some ob)(he:g.ob id=some (b,c))(hsz:ob.sz=s)(hfn:f+n<=c)(hoff:f<c\/f=0->off=f*s){cs:List Value}{zs:List AV}(hz:aJ g cs zs)(hone:∀v∈cs,v.oneCell'=true)(hk:k<=n)(hlen:zs.length=k*s)(hx:f*s<=ob.xs.length):∃w',(storeCells ⟨b,off,none⟩ cs).run P w= .ok () w'/\aQ w0 M0 F (tb.aP id {ob with xs:=ob.xs.take (f*s)++zs++ob.xs.drop (f*s+zs.length)}) g w':=by
 have hlz:=hz.length;by_cases FG:k*s=0
 ·have h0:zs=[]:=mB (by omega);have h1:cs=[]:=mB (by omega);subst h0;subst h1;refine⟨w,by simp[storeCells],hw.sub (fun i p e=>?_) (fun _ _ e=>e) (Nat.le_refl _)⟩;simp only[Tb.aP,a_]at e;split at e
  ·rename_i hi;subst hi;injection e with e;subst e;simp only[List.append_nil,List.length_nil,Nat.add_zero,List.take_append_drop];exact hl
  ·rename_i hi;rw[cu,if_neg hi]at e;exact e
 ·have hkp:0<k:=Nat.pos_of_ne_zero fun h=>FG (by rw[h];simp);obtain rfl:=hoff (.inl (by omega));refine K2 hw hl he (by omega) (f*s) hz hone hx ?_;rw[hlen,hsz,<-Nat.add_mul];exact Nat.mul_le_mul_right _ (by omega)
theorem m_{w0:World}{M0:Mem}{F:Nat->Prop}{tb:Tb}{g:G}{w:World}(hw:aQ w0 M0 F tb g w){id b c f n s k:Nat}{a:Option Addr}{ob:Ob}(hl:lk id tb.bx=some ob)(he:g.ob id=some (b,c))(hsz:ob.sz=s)(hfn:f+n<=c)(hv:yh a b c f s){cs:List Value}{zs:List AV}(hz:aJ g cs zs)(hone:∀v∈cs,v.oneCell'=true)(hk:k<=n)(hlen:zs.length=k*s)(hx:f*s<=ob.xs.length):∃w',(∀ad,a=some ad->(storeCells ad cs).run P w= .ok () w')/\(a=none->w'=w)/\aQ w0 M0 F (tb.aP id {ob with xs:=ob.xs.take (f*s)++zs++ob.xs.drop (f*s+zs.length)}) g w':=by
 cases hv with
 |real off g_ ha hoff=>
  subst ha;obtain⟨w',h1,h2⟩:=Bx (P:=P) hw hl he hsz hfn hoff hz hone hk hlen hx;exact⟨w',(fun ad e=>by injection e with e;subst e;exact h1),(fun e=>by cases e),h2⟩
 |void h0 ha=>
  obtain⟨w',h1,h2⟩:=Bx (P:=P) (off:=f*s) hw hl he hsz hfn (fun _=>rfl) hz hone hk hlen hx;have FG:k=0:=by omega
  have hc0:cs=[]:=mB (by rw[hz.length,hlen,FG,Nat.zero_mul]);subst hc0;simp only[storeCells,Sem.run_pure]at h1;injection h1 with _ h1;subst h1;exact⟨w,(fun ad e=>by simp[storeCells]),(fun _=>rfl),h2⟩
def bB(k:Nat)(xs:List AV):List AV:=xs++List.replicate (k-xs.length) .any
theorem eU{k:Nat}{xs:List AV}(h:k<=xs.length):bB k xs=xs:=by
 unfold bB;rw[Nat.sub_eq_zero_of_le h];simp
theorem eN{k:Nat}{xs:List AV}:(bB k xs).length=max xs.length k:=by
 unfold bB;simp;omega
theorem aQ.afv{w0:World}{M0:Mem}{F:Nat->Prop}{tb:Tb}{g:G}{w:World}(hw:aQ w0 M0 F tb g w){id b c k:Nat}{ob:Ob}(hl:lk id tb.bx=some ob)(he:g.ob id=some (b,c))(hk:k<=c*ob.sz):aQ w0 M0 F (tb.aP id {ob with xs:=bB k ob.xs}) g w:=by
 rcases Nat.eq_zero_or_pos c with h0|h0
 ·subst h0;rw[eU (by omega)];refine hw.sub (fun i p e=>?_) (fun _ _ e=>e) (Nat.le_refl _);simp only[Tb.aP,a_]at e;by_cases hi:i=id
  ·rw[if_pos hi]at e;injection e with e;subst e;subst hi;exact hl
  ·rw[if_neg hi,cu,if_neg hi]at e;exact e
 ·obtain⟨cur,f2,f3,⟨tt,fz,f4,fo⟩,f5,f6,f7,f8,f9⟩:=(hw.boxes id ob hl).real he h0;have hlen:(bB k ob.xs).length<=cur.size:=by rw[eN];omega
  have akp:∀(l:List Value),aJ g l (List.replicate l.length .any):=fun l=>by
   induction l with
   |nil=>exact .nil
   |cons v l ih=>exact .cons (.any v) ih
  have yY:aJ g (cur.toList.take (bB k ob.xs).length) (bB k ob.xs):=by
   have e1:cur.toList.take (bB k ob.xs).length=cur.toList.take ob.xs.length++(cur.toList.drop ob.xs.length).take (k-ob.xs.length):=by
    have:(bB k ob.xs).length=ob.xs.length+(k-ob.xs.length):=by rw[eN];omega
    rw[this,List.take_add]
   rw[e1];refine f8.append ?_;have:=akp ((cur.toList.drop ob.xs.length).take (k-ob.xs.length));have e2:((cur.toList.drop ob.xs.length).take (k-ob.xs.length)).length=k-ob.xs.length:=by
    rw[eN]at hlen;rw[List.length_take,List.length_drop,Array.length_toList];omega
   rw[e2]at this;exact this
  have key:=hw.aP (o':={ob with xs:=bB k ob.xs}) (cur':=cur) hl he h0 f4 rfl rfl rfl hlen yY f9;have:w.setRow b cur=w:=by
   obtain⟨heap,tape,drawn,os,output⟩:=w;simp only[World.setRow,World.mk.injEq,and_true]at f4⊢;apply Array.ext_getElem?;intro k;rw[Array.getElem?_modify];split
   ·rename_i e;subst e;rw[f4];rfl
   ·rfl
  rw[this]at key;exact key
theorem VG{x:AV}{aM:Tb}{y:Operand}{id f n s:Nat}{m:Option Nat}{ob:Ob}(hy:y∈o.op.operands)(hx:bE st.sl y= .view id f n s m)(hl:lk id st.tb.bx=some ob)(hsz:ob.sz=s)(h:dA P ⟨st.sl,st.tb.aP id {ob with xs:=bB (f*s) ob.xs}⟩ o x aM):dA P st o x aM:=by
 intro w0 M0 F g a w hw hop K Q hK;have h1:=iZ (a:=a) y (fun t e=>hop t (e▸hy));rw[hx]at h1;generalize a.eval y=v at h1;cases h1 with
 |view e h3 h4 h5 hm=>
  exact h w0 M0 F g a w (hw.afv hl e (by rw[hsz];exact Nat.mul_le_mul_right _ (by omega))) hop K Q hK
def aU:PC->List AV
 | .agg false xs=>xs.map .p
 |x=>[.p x]
theorem o7{g:G}:∀{us:List Value} {ys:List PC},cJ g.M us ys->(∀y∈ys,cw y=true)->aJ g (cellsOf us) (ys.flatMap aU)
 |_,_,.nil,_=> .nil
 |v::us,y::ys,.cons h hs,hn=>by
  simp only[cellsOf,List.flatMap_cons];refine aJ.append ?_ (o7 hs fun z hz=>hn z (by simp[hz]));have hy:=hn y (by simp);by_cases hp:y.plain=true
  ·obtain⟨e1,e2⟩:=iI h hp;rw[e1];have:aU y=[.p y]:=by cases y<;>simp_all [aU,PC.plain]
   rw[this];exact .cons (.p h) .nil
  ·cases y with
   |agg b xs=>
    cases b with
    |true=>simp[cw]at hy
    |false=>
     cases h with
     |agg hr h1=>simpa[aU,Value.cells]using jZ hr
   |_=>simp[PC.plain]at hp
theorem K3{c:Call}{x y:Operand}{t u:TypeId}(ho:o.op= .call c)(hc:c.callee= .builtin .copy)(ha:c.args=#[x,y])(ht:c.argTypes=#[t,u])(a:Act)(w:World):(execOp a.eval o).run P w=((Builtin.copy_ #[t,u] o.type #[a.eval x,a.eval y]).run P w).andThen fun v w=> .ok (.value v) w:=by
 simp only[execOp,ho,resolve,hc,ha,ht,Sem.run_bind,Sem.run_pure,Result.andThen_ok,invoke,builtin,List.map_toArray,List.map_cons,List.map_nil]
theorem By{c:Call}{x y:Operand}{t u:TypeId}{id f n s k:Nat}{m:Option Nat}{ob:Ob}{zs:List AV}(ho:o.op= .call c)(hc:c.callee= .builtin .copy)(ha:c.args=#[x,y])(hts:c.argTypes=#[t,u])(hx:bE st.sl x= .view id f n s m)(hl:lk id st.tb.bx=some ob)(hsz:ob.sz=s)(hel:aH P t=some s)(hf:f*s<=ob.xs.length)(hk:k<=n)(hlen:zs.length=k*s)(hsrc:∀(w0:World) (M0:Mem) (F:Nat->Prop) (g:G) (v:Value) (w:World),aQ w0 M0 F st.tb g w->aX g v (bE st.sl y)->∃sLen cs,(Builtin.lenOf v).run P w= .ok sLen w/\Nat.min sLen n=k/\(Builtin.firstCells s k v).run P w= .ok cs.toArray w/\aJ g cs zs/\∀u∈cs,u.oneCell'=true):dA P st o (.p (.int k)) (st.tb.aP id {ob with xs:=ob.xs.take (f*s)++zs++ob.xs.drop (f*s+zs.length)}):=bK fun w0 M0 F g a w hw h=>by
 have h1:=h x (by rw[ho];simp[Op.operands,Call.operands,hc,ha]);rw[hx]at h1;have h2:=h y (by rw[ho];simp[Op.operands,Call.operands,hc,ha]);obtain⟨el,hU,hs⟩:=ie hel;obtain⟨sLen,cs,q1,q2,q3,q4,q5⟩:=hsrc w0 M0 F g _ w hw h2;generalize hv:a.eval x=v at h1;cases h1 with
 |view e h3 h4 h5 hm=>
  rename_i b cc ad;obtain⟨w',r1,r0,r2⟩:=m_ (P:=P) hw hl e hsz h3 h5 q4 q5 hk hlen hf;refine⟨.int .i64 k,w',g,?_,G.le_refl g,r2,.p (.sc _ rfl)⟩;rw[K3 ho hc ha hts,hv];have:(Builtin.copy_ #[t,u] o.type #[.slice ad n (cc-f),a.eval y]).run P w= .ok (goInt k) w':=by
   cases ad with
   |none=>obtain rfl:=r0 rfl;simp[Builtin.copy_,run_underlying hU,q1,q2,run_sizeOf hs,q3]
   |some ad=>simp[Builtin.copy_,run_underlying hU,q1,q2,run_sizeOf hs,q3,r1 ad rfl]
  rw[this];rfl
theorem T4{c:Call}{x y:Operand}{t u:TypeId}{id f n s id' f' n' k:Nat}{m m':Option Nat}{ob jh:Ob}(ho:o.op= .call c)(hc:c.callee= .builtin .copy)(ha:c.args=#[x,y])(hts:c.argTypes=#[t,u])(hx:bE st.sl x= .view id f n s m)(hl:lk id st.tb.bx=some ob)(hsz:ob.sz=s)(hel:aH P t=some s)(hf:f*s<=ob.xs.length)(hy:bE st.sl y= .view id' f' n' s m')(hl':lk id' st.tb.bx=some jh)(hk:Nat.min n' n=k)(hf':(f'+k)*s<=jh.xs.length):dA P st o (.p (.int k)) (st.tb.aP id {ob with xs:=ob.xs.take (f*s)++(jh.xs.drop (f'*s)).take (k*s)++ob.xs.drop (f*s+k*s)}):=by
 have hzl:((jh.xs.drop (f'*s)).take (k*s)).length=k*s:=by
  rw[List.length_take,List.length_drop];rw[Nat.add_mul]at hf';omega
 have:=By (P:=P) (st:=st) (o:=o) (k:=k) (zs:=(jh.xs.drop (f'*s)).take (k*s)) ho hc ha hts hx hl hsz hel hf (by rw[<-hk];exact Nat.min_le_right _ _) hzl ?_
 ·rw[hzl]at this;exact this
 ·intro w0 M0 F g v w hw hv;rw[hy]at hv;cases hv with
  |view e h3 h4 h5 hm=>
   rename_i b cc ad;by_cases FG:k*s=0
   ·refine⟨n',[],by simp[Builtin.lenOf],hk,?_,?_,by simp⟩
    ·cases ad<;>simp only[Builtin.firstCells,FG]<;>rfl
    ·rw[mB (l:=(jh.xs.drop (f'*s)).take (k*s)) (by omega)];exact .nil
   ·have hkp:0<k:=Nat.pos_of_ne_zero fun h=>FG (by rw[h];simp);have hkn:k<=n':=by rw[<-hk];exact Nat.min_le_left _ _
    cases h5 with
    |void h0 _=>omega
    |real off g_ had h5=>
    subst had;obtain rfl:=h5 (.inl (by omega));obtain⟨cs,r1,r2,r3,r4,_⟩:=vD (P:=P) hw hl' e (f'*s) (k*s) (by rw[<-Nat.add_mul];exact hf');exact⟨n',cs,by simp[Builtin.lenOf],hk,by simp only[Builtin.firstCells];exact r2,r3,r4⟩
theorem T5{c:Call}{x y:Operand}{t u:TypeId}{id f n s k:Nat}{m:Option Nat}{ob:Ob}{ys:List PC}(ho:o.op= .call c)(hc:c.callee= .builtin .copy)(ha:c.args=#[x,y])(hts:c.argTypes=#[t,u])(hx:bE st.sl x= .view id f n s m)(hl:lk id st.tb.bx=some ob)(hsz:ob.sz=s)(hel:aH P t=some s)(hf:f*s<=ob.xs.length)(hy:(bE st.sl y).nm= .p (.sl ys))(hk:Nat.min ys.length n=k)(hw':∀y∈ys,y.width=s)(hn:∀y∈ys,cw y=true):dA P st o (.p (.int k)) (st.tb.aP id {ob with xs:=ob.xs.take (f*s)++(ys.take k).flatMap aU++ob.xs.drop (f*s+k*s)}):=by
 have rQ:k<=ys.length:=by rw[<-hk];exact Nat.min_le_left _ _
 have akq:∀y∈ys,(aU y).length=s:=fun y hy=>by
  rw[<-hw' y hy];cases y with
  |agg b l=>cases b<;>simp[aU,PC.width]
  |_=>rfl
 have hzl:((ys.take k).flatMap aU).length=k*s:=by
  have key:∀(l:List PC),(∀y∈l,(aU y).length=s)->(l.flatMap aU).length=l.length*s:=by
   intro l
   induction l with
   |nil=>intro _;simp
   |cons z l ih=>intro h;simp only[List.flatMap_cons,dU,List.length_cons];rw[ih fun q hq=>h q (by simp[hq]),h z (by simp),Nat.succ_mul];omega
  rw[key _ fun y hy=>akq y (jH hy),List.length_take,Nat.min_eq_left rQ]
 have:=By (P:=P) (st:=st) (o:=o) (k:=k) (zs:=(ys.take k).flatMap aU) ho hc ha hts hx hl hsz hel hf (by rw[<-hk];exact Nat.min_le_right _ _) hzl ?_
 ·rw[hzl]at this;exact this
 ·intro w0 M0 F g v w hw hv;have hv:=bP hv;rw[hy]at hv;obtain⟨ad,cap,us,lZ⟩:=o5 (aZ hv);have pF:=lZ.pF;have UQ:=pF.length;have jm:∀u∈us.take k,u.cells.size=s:=fun u hu=>dc pF hw' u (jH hu);have iB:=cO (us.take k) jm;rw[List.length_take,Nat.min_eq_left (by omega)]at iB;refine⟨ys.length,cellsOf (us.take k),by rw[lZ.hv];simp[Builtin.lenOf],hk,?_,o7 (pF.take k) fun y hy=>hn y (jH hy),fun u hu=>lZ.hone u ?_⟩
  ·rw[lZ.hv];cases ad with
   |none=>
    have h0:=lZ.hnil rfl;have h1:=lZ.hcap;have:us=[]:=mB (by omega);subst this;simp[Builtin.firstCells,cellsOf]
   |some b=>
    rcases lZ.hat b rfl with⟨e,hat⟩|hc0
    case inr=>
     have h1:=lZ.hcap;have SV:us=[]:=mB (by omega);subst SV;exact gX iB fun j u hj=>by simp[cellsOf]at hj
    refine gX iB fun j u hj=>?_;rw[e,Addr.add_lit];refine hw.holds _ _ _ (hat j u ?_);have e3:cellsOf us=cellsOf (us.take k)++cellsOf (us.drop k):=by rw[<-iu,List.take_append_drop]
    rw[e3,List.getElem?_append_left (List.getElem?_eq_some_iff.1 hj).1];exact hj
  ·have e3:cellsOf us=cellsOf (us.take k)++cellsOf (us.drop k):=by rw[<-iu,List.take_append_drop]
   rw[e3];exact List.mem_append_left _ hu
theorem oV{z:Array Value}(hz:0<z.size)(n:Nat):(Builtin.zeroCells z n).toList=(List.replicate n z.toList).flatten:=vN z hz n
theorem PT{c:Call}{x:Operand}{t e:TypeId}{id f n s bT:Nat}{m:Option Nat}{ob:Ob}{z:List PC}(ho:o.op= .call c)(hc:c.callee= .builtin .clear)(ha:c.args=#[x])(hts:c.argTypes=#[t])(hx:bE st.sl x= .view id f n s m)(hl:lk id st.tb.bx=some ob)(hsz:ob.sz=s)(hel:cU P t=some (e,s,bT))(hs:0<s)(hz:bG P e=some z)(hf:f*s<=ob.xs.length):dA P st o .any (st.tb.aP id {ob with xs:=ob.xs.take (f*s)++(fW n z).map .p++ob.xs.drop (f*s+n*s)}):=bK fun w0 M0 F g a w hw h=>by
 have h1:=h x (by rw[ho];simp[Op.operands,Call.operands,hc,ha]);rw[hx]at h1;obtain⟨hU,i,zv,hi,Am,oW,sE,hzs⟩:=fK hel;obtain⟨U0,oC,rfl,hone⟩:=uo hz hi;rw[Am]at oC;injection oC with oC;subst oC;have uq:=oV (z:=zv.cells) (by omega) n;have hr:=rC n (Builtin.zeroCells zv.cells n) uq g.M hone;generalize hv:a.eval x=v at h1;cases h1 with
 |view e h3 h4 h5 hm=>
  rename_i b cc ad;have hlen:((fW n (zv.cells.toList.map c1)).map AV.p).length=n*s:=by simp only[List.length_map,qw,Array.length_toList,hzs]
  obtain⟨w',r1,r0,r2⟩:=m_ (P:=P) hw hl e hsz h3 h5 (jZ hr.1) hr.2 (Nat.le_refl n) hlen hf;rw[hlen]at r2;refine⟨.tuple #[],w',g,?_,G.le_refl g,r2,.any _⟩;have hrun:(Builtin.clear_ #[t] o.type #[.slice ad n (cc-f)]).run P w= .ok (.tuple #[]) w':=by
   cases ad with
   |none=>obtain rfl:=r0 rfl;simp[Builtin.clear_,run_underlying hU]
   |some ad=>
   have r1:=r1 ad rfl;cases n with
   |zero=>
    have e0:(Builtin.zeroCells zv.cells 0).toList=[]:=by rw[uq];simp
    rw[e0]at r1;simp only[storeCells,Sem.run_pure]at r1;injection r1 with _ r1;subst r1;simp[Builtin.clear_,run_underlying hU]
   |succ n=>simp[Builtin.clear_,run_underlying hU,zeroValue,typeInfo,hi,Am,r1]
  simp only[execOp,ho,resolve,hc,ha,hts,Sem.run_bind,Sem.run_pure,Result.andThen_ok,invoke,builtin,List.map_toArray,List.map_cons,List.map_nil,hv,hrun]
  try rfl
end
theorem aJ.split{g:G}:∀(xs:List AV) {vs:List Value} {ys:List AV},aJ g vs (xs++ys)->∃us ws,vs=us++ws/\aJ g us xs/\aJ g ws ys
 |[],vs,_,h=>⟨[],vs,rfl,.nil,h⟩
 |x::xs,_,ys,h=>by
  cases h with
  |cons h hs=>
   obtain⟨us,ws,rfl,h1,h2⟩:=aJ.split xs hs;exact⟨_::us,ws,rfl,.cons h h1,h2⟩
theorem Bw{g:G}:∀{vs:List Value} (xs:List PC),aJ g vs (xs.map .p)->cJ g.M vs xs
 |_,[],h=>by cases h;exact .nil
 |_,x::xs,h=>by cases h with|cons h hs=>exact .cons (aZ h) (Bw xs hs)
theorem sF{g:G}:∀(ys:List PC) {cs:List Value},aJ g cs (ys.flatMap aU)->(∀u∈cs,u.oneCell'=true)->(∀y∈ys,cw y=true)->∃us,cellsOf us=cs/\cJ g.M us ys
 |[],_,h,_,_=>by cases h;exact⟨[],rfl,.nil⟩
 |y::ys,cs,h,h1,hn=>by
  simp only[List.flatMap_cons]at h;obtain⟨us,ws,rfl,k1,k2⟩:=aJ.split _ h;obtain⟨vs,e,k3⟩:=sF ys k2 (fun u hu=>h1 u (by simp[hu])) (fun z hz=>hn z (by simp[hz]));have one:∀(v:Value),us=[v]->v.cells=#[v]:=fun v e=>by
   have:=h1 v (by rw[e];simp);cases v<;>simp_all [Value.cells,Value.oneCell']
  have plain:aU y=[.p y]->∃us',cellsOf us'=us++ws/\cJ g.M us' (y::ys):=fun hp=>by
   rw[hp]at k1;cases k1 with
   |@cons v _ _ _ hv hs=>
    cases hs;refine⟨v::vs,?_,.cons (aZ hv) k3⟩;simp only[cellsOf,List.flatMap_cons]at e⊢;rw[one v rfl,e]
  cases y with
  |agg b l=>
   cases b with
   |true=>have:=hn (.agg true l) (by simp);simp[cw]at this
   |false=>
    simp only[aU]at k1;have hr:=Bw l k1;refine⟨.agg us.toArray::vs,?_,.cons (.agg hr fun v hv=>h1 v (by simp[hv])) k3⟩;simp only[cellsOf,List.flatMap_cons]at e⊢;rw[e];simp[Value.cells]
  |_=>exact plain rfl
section
variable{w0:World}{M0:Mem}{F:Nat->Prop}{tb:Tb}{g:G}{w:World}
theorem aQ.xC(h:aQ w0 M0 F tb g w){id b c n:Nat}{ob:Ob}{ys:List PC}(hl:lk id tb.bx=some ob)(he:g.ob id=some (b,c))(g_:0<c)(hs:0<ob.sz)(hn:n<=c)(hx:n*ob.sz<=ob.xs.length)(hc:ob.xs.take (n*ob.sz)=ys.flatMap aU)(hy:ys.length=n)(hw':∀y∈ys,y.width=ob.sz)(ht:∀y∈ys,cw y=true):∃N,g.M.le N/\aQ w0 M0 F ((tb.cD id).bU ob.el ob.sz) ((g.with N).cY tb.nx (.slice (some ⟨b,0,none⟩) n c)) w/\gO N (.slice (some ⟨b,0,none⟩) n c) (.sl ys):=by
 have f1':=he;obtain⟨cur,f2,f3,⟨tt,fz,f4,fo⟩,f5,f6,f7,f8,f9⟩:=(h.boxes id ob hl).real he g_;generalize b=b' at*;generalize c=c' at*
 let N:Mem:=fun k o=>if k=b' then(cur.toList.take (n*ob.sz))[o]? else g.M k o
 have hNb:∀o,N b' o=(cur.toList.take (n*ob.sz))[o]?:=fun o=>by show(if b'=b' then _ else _)=_;rw[if_pos rfl]
 have Hz:∀k,k≠b'->N k=g.M k:=fun k hk=>by funext o;show(if k=b' then _ else _)=_;rw[if_neg hk]
 have hM:g.M.le N:=fun k o v e=>by
  by_cases hk:k=b'
  ·subst hk;rw[f3 o]at e;cases e
  ·rw[Hz k hk];exact e
 have hne:∀i p k m,lk i tb.bx=some p->i≠id->g.ob i=some (k,m)->0<m->k≠b':=fun i p k m e hi hg hm=>h.f_ i id p ob k m b' c' e hl hi hg f1' hm g_;have hnr:∀i r v,lk i tb.rw=some r->g.rv i=some v->dZ v≠some b':=fun i r v e hv=>h.fj id i ob r b' c' v hl e f1' hv g_;have Mj:(g.with N).le ((g.with N).cY tb.nx (.slice (some ⟨b',0,none⟩) n c')):=⟨Mem.le_refl _,fun _ _ e=>e,fun i p e=>by have:=h.oc e;simp only[G.cY];rw[if_neg (by omega)];exact e⟩;have hat:At N b' 0 (cur.toList.take (n*ob.sz)):=fun j v e=>by rw[Nat.zero_add,hNb];exact e
 have hcells:aJ g (cur.toList.take (n*ob.sz)) (ys.flatMap aU):=by
  have:=f8.take (n*ob.sz);rw[hc,List.take_take,Nat.min_eq_left hx]at this;exact this
 have hone:∀u∈cur.toList.take (n*ob.sz),u.oneCell'=true:=fun u hu=>f9 u (by
  have:cur.toList.take (n*ob.sz)=(cur.toList.take ob.xs.length).take (n*ob.sz):=by rw[List.take_take,Nat.min_eq_left hx]
  exact jH hu)
 obtain⟨us,pF,yY⟩:=sF ys hcells hone ht;refine⟨N,hM,⟨⟨fun k o v e=>?_,h.holds.g.mono hM⟩,h.keep,fun k hk hf=>?_,h.Dm.trans hM,fun i p e=>?_,fun i el sz e=>?_,fun i j p q k m k' m' ei ej hij=>?_,fun i j r s u v k ei ej hij e1 e2 e3=>?_,fun i j p r k m v ei ej e1 e2 p1=>?_,fun i hi=>?_⟩,?_⟩
 ·by_cases hk:k=b'
  ·subst hk;have e:N k o=some v:=e;rw[hNb]at e;rw[List.getElem?_take]at e;split at e
   ·unfold World.cell?;rw[f4];simpa using e
   ·cases e
  ·exact h.holds k o v (by rw[<-Hz k hk];exact e)
 ·have hkb:k≠b':=fun hh=>by
   subst hh;rcases f2 with f2|f2
   ·omega
   ·exact hf f2
  show N k=M0 k;rw[Hz k hkb];exact h.old k hk hf
 ·simp only[Tb.bU,Tb.cD,cu]at e;split at e
  ·cases e
  ·rename_i hi;obtain⟨b1,c1,q1,qr,q0⟩:=h.boxes i p e;refine⟨b1,c1,q1,fun hp=>?_,q0⟩;obtain⟨qg,q2,q3,q4,q5,q6,q7,q8,q9⟩:=qr hp;exact⟨qg,q2,fun off=>by show N b1 off=none;rw[Hz b1 (hne i p b1 c1 e hi q1 hp)];exact q3 off,q4,q5,q6,q7,(q8.mono (G.oN hM)).mono Mj,q9⟩
 ·simp only[Tb.bU,Tb.cD,a_]at e;split at e
  ·rename_i hi;subst hi;injection e with e;injection e with e1 e2;subst e1;subst e2;refine⟨.slice (some ⟨b',0,none⟩) n c',by simp[G.cY],?_⟩;rcases Nat.lt_or_ge n c' with hlt|hge
   ·exact .inr ⟨b',n,c',cur,rfl,f2,⟨tt,fz,f4,fo⟩,f5,hlt,f6,hs,hat,fun o v e=>by
     have e:N b' o=some v:=e;rw[hNb]at e;have:=(List.getElem?_eq_some_iff.1 e).1;simp at this;omega⟩
   ·obtain rfl:n=c':=by omega
    exact .inl ⟨_,_,rfl⟩
  ·rename_i hi;obtain⟨v,q1,q2⟩:=h.rows i el sz e;refine⟨v,by simp only[G.cY];rw[if_neg hi];exact q1,q2.imp (fun h=>h) ?_⟩;rintro⟨b1,n1,FR,qg,g3,g4,g5,g6,g7,g8,g9,g10,g11⟩;have hb1:b1≠b':=fun hh=>hnr i _ v e q1 (by subst g3;subst hh;exact de g7);exact⟨b1,n1,FR,qg,g3,g4,g5,g6,g7,g8,g9,g10.mono hM,fun o v e=>g11 o v (by rw[<-Hz b1 hb1];exact e)⟩
 ·simp only[Tb.bU,Tb.cD,cu]at ei ej;split at ei
  ·cases ei
  ·split at ej
   ·cases ej
   ·exact h.f_ i j p q k m k' m' ei ej hij
 ·simp only[Tb.bU,Tb.cD,a_]at ei ej;simp only[G.cY]at e1 e2;split at ei
  ·rename_i hi;rw[if_pos hi]at e1;injection e1 with e1;subst e1;have:=eP e3;subst this;split at ej
   ·rename_i hj;omega
   ·rename_i hj;rw[if_neg hj]at e2;exact hnr j s v ej e2
  ·rename_i hi;rw[if_neg hi]at e1;split at ej
   ·rename_i hj;rw[if_pos hj]at e2;injection e2 with e2;subst e2;intro e6;have:=eP e6;subst this;exact hnr i r u ei e1 e3
   ·rename_i hj;rw[if_neg hj]at e2;exact h.ia i j r s u v k ei ej hij e1 e2 e3
 ·simp only[Tb.bU,Tb.cD,a_,cu]at ei ej;simp only[G.cY]at e2;split at ei
  ·cases ei
  ·rename_i hi;split at ej
   ·rename_i hj;rw[if_pos hj]at e2;injection e2 with e2;subst e2;intro e6;have:=eP e6;exact hne i p k m ei hi e1 p1 this
   ·rename_i hj;rw[if_neg hj]at e2;exact h.fj i j p r k m v ei ej e1 e2 p1
 ·simp only[Tb.bU,Tb.cD]at hi;have:=h.fresh i (by omega);simp only[G.cY];rw[if_neg (by omega)];exact this
 ·have UQ:=yY.length;refine .sl (us:=us) (by omega) hn f6 hs (dc yY hw') (fun v hv=>hone v (by rw[<-pF];exact hv)) (by rw[pF];exact hat) (yY.mono hM)
end
def Qx(P:Program)(t:TypeId)(k:AV->Prop):AV->AV->Prop
 | .view id f n s m,y=>(match y.nm with
  | .p (.sc (.int _ j))=>0<=j/\j<(n:Int)/\aH P t=some s/\k (.obj id ((f+j.toNat)*s))
  |_=>False)
 | .obj id off,y=>(match y.nm,ic P t with
  | .p (.sc (.int _ j)),some (m,s,_)=>0<=j/\j<(m:Int)/\k (.obj id (off+j.toNat*s))
  |_,_=>False)
 |x,y=>eY P t k x.nm y.nm
def glW(P:Program)(t:TypeId)(k:AV->Prop):AV->Prop
 | .p (.sc (.int _ n))=>ic P t=some (16,1,false)/\0<=n/\n<16/\k (.p (.ref (.sc (.int .u32 ((mb.getD n.toNat 0:Nat):Int)))))
 |_=>False
def vw(n cap:Nat)(lo hi:Option AV)(k:Nat->Nat->Prop):Prop:=match pO 0 lo,pO n hi with
 |some l,some h=>pP lo/\pP hi/\l<=h/\h<=cap/\k l h
 |_,_=>False
def z6(P:Program)(t:TypeId)(lo hi:Option AV)(k:AV->Prop):AV->Prop
 | .view id f n s (some m)=>aH P t=some s/\f<=m/\vw n (m-f) lo hi fun l h=>k (.view id (f+l) (h-l) s (some m))
 | .view id f n s none=>aH P t=some s/\vw n n lo hi fun l h=>k (.view id (f+l) (h-l) s none)
 | .p .nil=>(aH P t).isSome=true/\vw 0 0 lo hi fun _ _=>k (.p .nil)
 |x=>gR P t lo hi k x.nm
def S3(P:Program)(t:TypeId)(k:AV->Prop)(lo hi mx:AV):AV->Prop
 | .view _ _ n _ _=>(match lo,hi,mx with
  | .p (.sc (.int _ l)),.p (.sc (.int _ h)),.p (.sc (.int _ m))=>(aH P t).isSome=true/\0<=l/\l<=h/\h<=m/\m<=(n:Int)/\k .any
  |_,_,_=>False)
 |x=>(match x.nm,lo,hi,mx with
  | .p (.sl xs),.p (.sc (.int _ l)),.p (.sc (.int _ h)),.p (.sc (.int _ m))=>(aH P t).isSome=true/\(∀y∈xs,aH P t=some y.width)/\0<=l/\l<=h/\h=m/\m<=(xs.length:Int)/\k (.full ((xs.take h.toNat).drop l.toNat))
  |_,_,_,_=>False)
def Ap(P:Program)(t:TypeId)(k:AV->Prop):AV->Prop
 | .view _ _ n _ _=>(aH P t).isSome=true/\k (.p (.int n))
 |x=>uX P t k x.nm
def CM(P:Program)(t:TypeId)(k:AV->Prop):AV->Prop
 | .view _ f _ _ (some m)=>(aH P t).isSome=true/\k (.p (.int ((m-f:Nat):Int)))
 | .p .nil=>(aH P t).isSome=true/\k (.p (.int 0))
 | .full xs=>(aH P t).isSome=true/\k (.p (.int xs.length))
 |_=>False
def h_(P:Program)(op:Op)(e:Operand->AV)(k:AV->Prop):Prop:=match op with
 | .indexAddr t x i=>(match x with
  | .global 0=>glW P t k (e i).nm
  |x=>Qx P t k (e x) (e i))
 | .slice t x lo hi none=>z6 P t (lo.map fun y=>(e y).nm) (hi.map fun y=>(e y).nm) k (e x)
 | .slice t x none (some hi) (some mx)=>S3 P t k (.p (.int 0)) (e hi).nm (e mx).nm (e x)
 | .slice t x (some lo) (some hi) (some mx)=>S3 P t k (e lo).nm (e hi).nm (e mx).nm (e x)
 | .call c=>(match c.callee with
  | .builtin .len=>c.args.size=1/\c.argTypes.size=1/\Ap P (c.argTypes.getD 0 0) k (e (c.args.getD 0 (.tmp 0)))
  | .builtin .cap=>c.args.size=1/\c.argTypes.size=1/\CM P (c.argTypes.getD 0 0) k (e (c.args.getD 0 (.tmp 0)))
  |_=>Qv P (.call c) e k)
 |op=>Qv P op e k
section
variable{P:Program}{sl:Nat->AV}{o:Oper}
theorem XU{c:Call}{x:Operand}{t:TypeId}(ho:o.op= .call c)(hc:c.callee= .builtin .cap)(ha:c.args=#[x])(hts:c.argTypes=#[t])(hx:bE sl x= .p .nil)(ht:(aH P t).isSome=true):cP P sl o (.p (.int 0)):=dx fun w0 M0 F tb g a w hw h=>by
 have e1:=h x (by rw[ho];simp[Op.operands,Call.operands,hc,ha]);rw[hx]at e1;obtain⟨el,hU⟩:=Gw ht;have e1:=aZ e1;generalize hv:a.eval x=v at e1;cases e1;exact⟨.int .i64 0,by simp[execOp,ho,resolve,hc,ha,hts,invoke,builtin,hv,Builtin.cap_,run_underlying hU,goInt],.p (.sc _ rfl)⟩
theorem XV{c:Call}{x:Operand}{t:TypeId}{xs:List PC}(ho:o.op= .call c)(hc:c.callee= .builtin .cap)(ha:c.args=#[x])(hts:c.argTypes=#[t])(hx:bE sl x= .full xs)(ht:(aH P t).isSome=true):cP P sl o (.p (.int xs.length)):=dx fun w0 M0 F tb g a w hw h=>by
 have e1:=h x (by rw[ho];simp[Op.operands,Call.operands,hc,ha]);rw[hx]at e1;obtain⟨el,hU⟩:=Gw ht;generalize hv:a.eval x=v at e1;cases e1 with
 |full hr=>
  rename_i ad n;have hn:n=xs.length:=by
   cases hr with
   |cX=>rfl
   |rH a=>rfl
   |sl hn _ _ _ _ _ _ hs=>rw[<-hn,hs.length]
  subst hn;exact⟨.int .i64 xs.length,by simp[execOp,ho,resolve,hc,ha,hts,invoke,builtin,hv,Builtin.cap_,run_underlying hU,goInt],.p (.sc _ rfl)⟩
theorem ad5{t:TypeId}{x:Operand}{lo hi:Option Operand}{l h:Nat}(ho:o.op= .slice t x lo hi none)(hx:bE sl x= .p .nil)(hsz:(aH P t).isSome=true)(hlo:match lo.map (fun y=>(bE sl y).nm)with|none=>l=0|some (.p (.sc (.int _ i)))=>i=(l:Int)|_=>False)(hhi:match hi.map (fun y=>(bE sl y).nm)with|none=>h=0|some (.p (.sc (.int _ i)))=>i=(h:Int)|_=>False)(h1:l<=h)(h2:h<=0):cP P sl o (.p .nil):=dx fun w0 M0 F tb g a w hw hr=>by
 have h3:=hr x (by simp[ho,Op.operands]);rw[hx]at h3;have h3:=aZ h3;generalize hv:a.eval x=v at h3;have b1:=nt (fun y e=>bP (hr y (by simp[ho,Op.operands,e]))) hlo;have b2:=nt (fun y e=>bP (hr y (by simp[ho,Op.operands,e]))) hhi;obtain⟨s,hs⟩:=Option.isSome_iff_exists.1 hsz;obtain⟨el,hU,hs⟩:=ie hs;obtain rfl:h=0:=by omega
 obtain rfl:l=0:=by omega
 cases h3;have hb:=oL (P:=P) (Um:=true) (n:=0) (cap:=0) b1 b2 h1 (by omega) w;exact⟨.slice none 0 0,by simp[execOp,ho,hv,Instr.sliceAt,Instr.slice,run_underlying hU,hb,run_sizeOf hs],.p .nil⟩
theorem qh{n cap l h m:Nat}{lo:Option Value}{k1 k2:IntKind}(hlo:(lo=none/\l=0)\/∃k,lo=some (.int k l))(h1:l<=h)(h2:h<=m)(h3:m<=cap)(w:World):(Instr.sliceBounds true n cap lo (some (.int k1 h)) (some (.int k2 m))).run P w= .ok (l,h,m) w:=by
 unfold Instr.sliceBounds;rcases hlo with⟨rfl,rfl⟩|⟨k,rfl⟩
 ·simp[Instr.sliceBound,asIntOf,show m<=cap by omega,show h<=m by omega]
 ·simp[Instr.sliceBound,asIntOf,show m<=cap by omega,show h<=m by omega,show l<=h by omega]
theorem OX{t:TypeId}{x:Operand}{lo:Option Operand}{hi mx:Operand}{id f n s:Nat}{m:Option Nat}{l h c:Nat}{k1 k2:IntKind}(ho:o.op= .slice t x lo (some hi) (some mx))(hx:bE sl x= .view id f n s m)(hsz:(aH P t).isSome=true)(hlo:(lo=none/\l=0)\/∃y k,lo=some y/\(bE sl y).nm= .p (.sc (.int k l)))(hhi:(bE sl hi).nm= .p (.sc (.int k1 h)))(hmx:(bE sl mx).nm= .p (.sc (.int k2 c)))(h1:l<=h)(h2:h<=c)(h3:c<=n):cP P sl o .any:=dx fun w0 M0 F tb g a w hw hr=>by
 have e1:=hr x (by simp[ho,Op.operands]);rw[hx]at e1;have e2:=bP (hr hi (by cases lo<;>simp[ho,Op.operands]));rw[hhi]at e2;have e3:=bP (hr mx (by cases lo<;>simp[ho,Op.operands]));rw[hmx]at e3;have e2:=bF e2;have e3:=bF e3;have e4:(lo.map a.eval=none/\l=0)\/∃k,lo.map a.eval=some (.int k l):=by
  rcases hlo with⟨rfl,rfl⟩|⟨y,k,rfl,hy⟩
  ·exact .inl ⟨rfl,rfl⟩
  ·have:=bP (hr y (by simp[ho,Op.operands]));rw[hy]at this;exact .inr ⟨k,by simp[bF this]⟩
 obtain⟨s',hs'⟩:=Option.isSome_iff_exists.1 hsz;obtain⟨el,hU,hs⟩:=ie hs';generalize hv:a.eval x=v at e1;cases e1 with
 |view e h4 h5 h6 hm=>
  rename_i b cc ad;have hb:=qh (P:=P) (n:=n) (cap:=cc-f) (k1:=k1) (k2:=k2) e4 h1 h2 (by omega) w;exact⟨.slice (if c=l then ad else Option.map (fun x=>x.add (l*s')) ad) (h-l) (c-l),by simp[execOp,ho,hv,e2,e3,Instr.sliceAt,Instr.slice,run_underlying hU,hb,run_sizeOf hs],.any _⟩
theorem OY{t:TypeId}{x:Operand}{lo:Option Operand}{hi mx:Operand}{xs:List PC}{l h:Nat}{k1 k2:IntKind}(ho:o.op= .slice t x lo (some hi) (some mx))(hx:(bE sl x).nm= .p (.sl xs))(hsz:(aH P t).isSome=true)(hwd:∀y∈xs,aH P t=some y.width)(hlo:(lo=none/\l=0)\/∃y k,lo=some y/\(bE sl y).nm= .p (.sc (.int k l)))(hhi:(bE sl hi).nm= .p (.sc (.int k1 h)))(hmx:(bE sl mx).nm= .p (.sc (.int k2 h)))(h1:l<=h)(h3:h<=xs.length):cP P sl o (.full ((xs.take h).drop l)):=dx fun w0 M0 F tb g a w hw hr=>by
 have e1:=bP (hr x (by simp[ho,Op.operands]));rw[hx]at e1;have e2:=bP (hr hi (by cases lo<;>simp[ho,Op.operands]));rw[hhi]at e2;have e3:=bP (hr mx (by cases lo<;>simp[ho,Op.operands]));rw[hmx]at e3;have e2:=bF e2;have e3:=bF e3;have e4:(lo.map a.eval=none/\l=0)\/∃k,lo.map a.eval=some (.int k l):=by
  rcases hlo with⟨rfl,rfl⟩|⟨y,k,rfl,hy⟩
  ·exact .inl ⟨rfl,rfl⟩
  ·have:=bP (hr y (by simp[ho,Op.operands]));rw[hy]at this;exact .inr ⟨k,by simp[bF this]⟩
 obtain⟨es,hes⟩:=Option.isSome_iff_exists.1 hsz;obtain⟨el,hU,hs⟩:=ie hes;have e1:=aZ e1;generalize hv:a.eval x=v at e1;cases e1 with
 |cX=>
  simp at h3;obtain rfl:h=0:=by omega
  obtain rfl:l=0:=by omega
  have hb:=qh (P:=P) (n:=0) (cap:=0) (k1:=k1) (k2:=k2) e4 h1 (Nat.le_refl 0) (by omega) w;simp only[Int.natCast_zero]at hb e2 e3;exact⟨.slice none 0 0,by simp[execOp,ho,hv,e2,e3,Instr.sliceAt,Instr.slice,run_underlying hU,hb,run_sizeOf hs],by simpa using aX.full (g:=g) (a:=none) (n:=0) .cX⟩
 |rH ad=>
  simp at h3;obtain rfl:h=0:=by omega
  obtain rfl:l=0:=by omega
  have hb:=qh (P:=P) (n:=0) (cap:=0) (k1:=k1) (k2:=k2) e4 h1 (Nat.le_refl 0) (by omega) w;simp only[Int.natCast_zero]at hb e2 e3;exact⟨.slice (some ad) 0 0,by simp[execOp,ho,hv,e2,e3,Instr.sliceAt,Instr.slice,run_underlying hU,hb,run_sizeOf hs],by simpa using aX.full (g:=g) (a:=some ad) (n:=0) (.rH ad)⟩
 |sl hl hc hm hs0 hu h1c hat pY=>
  rename_i b off n cap sz us;have hlx:=pY.length;have hn:n=xs.length:=by omega
  have hb:=qh (P:=P) (n:=n) (cap:=cap) (k1:=k1) (k2:=k2) e4 h1 (Nat.le_refl h) (by omega) w;have VW:0<xs.length->es=sz:=fun hp=>by
   have hy:=hwd (xs[0]'hp) (List.getElem_mem hp)
   obtain⟨u,z8,Fw⟩:=pY.get (i:=0) (kq hp);have:u.cells.size=sz:=hu u (List.mem_of_getElem? z8);rw[qN Fw]at this;rw[hes]at hy;injection hy with hy;omega
  have hoff:(if h=l then(some (⟨b,off,none⟩:Addr))else some ⟨b,off+l*es,none⟩)=some ⟨b,off+(if h=l then 0 else l*es),none⟩:=by split<;>simp
  refine⟨.slice (some ⟨b,off+(if h=l then 0 else l*es),none⟩) (h-l) (h-l),?_,.full ?_⟩
  ·rw[<-hoff];simp[execOp,ho,hv,e2,e3,Instr.sliceAt,Instr.slice,run_underlying hU,hb,run_sizeOf hs,Addr.add_lit]
  ·have pF:∀u∈(us.take h).drop l,u.cells.size=sz:=fun u LQ=>hu u (jH (List.mem_of_mem_drop LQ));refine .sl (sz:=sz) (us:=(us.take h).drop l) (by simp;omega) (by omega) (by omega) hs0 pF (fun v hv=>h1c v (by
    obtain⟨u,z8,Fw⟩:=List.mem_flatMap.1 hv;exact List.mem_flatMap.2 ⟨u,jH (List.mem_of_mem_drop z8),Fw⟩)) ?_ ((pY.take h).drop l)
   by_cases iB:h=l
   ·have:(us.take h).drop l=[]:=by apply List.drop_eq_nil_of_le;simp;omega
    rw[this];intro j v e;simp[cellsOf]at e
   ·rw[if_neg iB,VW (by omega)];refine At.sub hat (fun j v e=>?_);have ajg:∀u∈us.take h,u.cells.size=sz:=fun u LQ=>hu u (jH LQ);exact sV us hu h _ v (sW (us.take h) ajg l (by simp;omega) j v e)
theorem OZ{j:Nat}(h:j<16):mb[j]?=some (mb.getD j 0):=by
 have:j<mb.length:=h;rw[kq this];simp[List.getD,this]
theorem ajh{t:TypeId}{i:Operand}{kd:IntKind}{n:Int}(ho:o.op= .indexAddr t (.global 0) i)(hi:(bE sl i).nm= .p (.sc (.int kd n)))(hA:ic P t=some (16,1,false))(h0:0<=n)(hn:n<16):cP P sl o (.p (.ref (.sc (.int .u32 ((mb.getD n.toNat 0:Nat):Int))))):=bH fun w0 M0 F tb g a w hw h=>by
 have e2:=h i (by simp[ho,Op.operands]);rw[hi]at e2;have e2:=bF e2;obtain⟨m,rfl⟩:=Int.eq_ofNat_of_zero_le h0;have hm:m<16:=by omega
 refine⟨.pointer (some ⟨0,m,none⟩),?_,?_⟩
 ·unfold ic at hA;split at hA
  ·rename_i m' e hU;split at hA
   ·rename_i s' a' hs' Jl;injection hA with hA;obtain⟨rfl,rfl,rfl⟩:=by simpa using hA
    have ev:a.eval (.global 0)= .pointer (some ⟨0,0,none⟩):=rfl;simp[execOp,ho,ev,e2,Instr.indexAt,asIntOf,run_underlying hU,Instr.sureAddr,hm,run_sizeOf hs',Addr.add_lit]
   ·cases hA
  ·cases hA
 ·refine .p (.ref (u:= .int .u32 ((mb.getD m 0:Nat):Int)) (fun j v ej=>?_) (.sc _ rfl));simp only[Value.cells]at ej;cases j with
  |succ j=>simp at ej
  |zero=>
   simp at ej;subst ej;exact hw.holds.g m _ (OZ hm)
theorem CN{k:AV->Prop}(h:h_ P o.op (bE sl) k):∃x,k x/\cP P sl o x:=by
 unfold h_ at h;split at h
 ·rename_i t x i ho;split at h
  ·unfold glW at h;split at h
   ·rename_i c n hi;obtain⟨h1,h2,h3,h⟩:=h;exact⟨_,h,ajh ho hi h1 h2 h3⟩
   ·exact h.elim
  unfold Qx at h;split at h
  ·rename_i id f n s m hx;split at h
   ·rename_i kd j hi;obtain⟨h1,h2,h3,h⟩:=h;exact⟨_,h,ad6 ho hx hi h1 h2 h3⟩
   ·exact h.elim
  ·rename_i id off hx;split at h
   ·rename_i kd j m s a hi hf;obtain⟨h1,h2,h⟩:=h;exact⟨_,h,acW ho hx hi hf h1 h2⟩
   ·exact h.elim
  ·exact uj (by rw[ho];exact h)
 ·rename_i t x lo hi ho;unfold z6 at h;split at h
  ·rename_i id f n s m hx;obtain⟨h1,hfm,h⟩:=h;unfold vw at h;split at h
   ·rename_i l hh e1 e2;obtain⟨c1,c2,h4,h5,h6⟩:=h;exact⟨_,h6,U3 ho hx h1 (nP e1 c1) (nP e2 c2) h4 (.inr ⟨m,rfl,by omega⟩)⟩
   ·exact h.elim
  ·rename_i id f n s hx;obtain⟨h1,h⟩:=h;unfold vw at h;split at h
   ·rename_i l hh e1 e2;obtain⟨c1,c2,h4,h5,h6⟩:=h;exact⟨_,h6,U3 ho hx h1 (nP e1 c1) (nP e2 c2) h4 (.inl h5)⟩
   ·exact h.elim
  ·rename_i hx;obtain⟨h1,h⟩:=h;unfold vw at h;split at h
   ·rename_i l hh e1 e2;obtain⟨c1,c2,h4,h5,h6⟩:=h;exact⟨_,h6,ad5 ho hx h1 (nP e1 c1) (nP e2 c2) h4 h5⟩
   ·exact h.elim
  ·exact uj (by rw[ho];exact h)
 ·rename_i t x hi mx ho;unfold S3 at h;split at h
  ·rename_i id f n s m hx;split at h
   ·rename_i kl l kh h' km m' hl hh hm;obtain⟨h1,h2,h3,h4,h5,h⟩:=h;injection hl with hl;injection hl with hl;injection hl with rR Jm;subst Jm;exact⟨_,h,OX (l:=0) (h:=h'.toNat) (c:=m'.toNat) ho hx h1 (.inl ⟨rfl,rfl⟩) (by rw[hh,Int.toNat_of_nonneg (by omega)]) (by rw[hm,Int.toNat_of_nonneg (by omega)]) (by omega) (by omega) (by omega)⟩
   ·exact h.elim
  ·split at h
   ·rename_i xs kl l kh h' km m' hx hl hh hm;obtain⟨h1,h2,h3,h4,h5,h6,h⟩:=h;injection hl with hl;injection hl with hl;injection hl with rR Jm;subst Jm;subst h5;exact⟨_,h,OY (l:=0) (h:=h'.toNat) ho hx h1 h2 (.inl ⟨rfl,rfl⟩) (by rw[hh,Int.toNat_of_nonneg (by omega)]) (by rw[hm,Int.toNat_of_nonneg (by omega)]) (by omega) (by omega)⟩
   ·exact h.elim
 ·rename_i t x lo hi mx ho;unfold S3 at h;split at h
  ·rename_i id f n s m hx;split at h
   ·rename_i kl l kh h' km m' hl hh hm;obtain⟨h1,h2,h3,h4,h5,h⟩:=h;exact⟨_,h,OX (l:=l.toNat) (h:=h'.toNat) (c:=m'.toNat) ho hx h1 (.inr ⟨lo,kl,rfl,by rw[hl,Int.toNat_of_nonneg (by omega)]⟩) (by rw[hh,Int.toNat_of_nonneg (by omega)]) (by rw[hm,Int.toNat_of_nonneg (by omega)]) (by omega) (by omega) (by omega)⟩
   ·exact h.elim
  ·split at h
   ·rename_i xs kl l kh h' km m' hx hl hh hm;obtain⟨h1,h2,h3,h4,h5,h6,h⟩:=h;subst h5;exact⟨_,h,OY (l:=l.toNat) (h:=h'.toNat) ho hx h1 h2 (.inr ⟨lo,kl,rfl,by rw[hl,Int.toNat_of_nonneg (by omega)]⟩) (by rw[hh,Int.toNat_of_nonneg (by omega)]) (by rw[hm,Int.toNat_of_nonneg (by omega)]) (by omega) (by omega)⟩
   ·exact h.elim
 ·rename_i c ho;split at h
  ·rename_i hc;obtain⟨h1,h2,h⟩:=h;have ea:=nu h1 (.tmp 0);have et:=nu h2 0;unfold Ap at h;split at h
   ·rename_i hx;exact⟨_,h.2,XW ho hc ea et hx h.1⟩
   ·exact uj (by rw[ho];unfold Qv Jo;simp only[hc];exact⟨h1,h2,h⟩)
  ·rename_i hc;obtain⟨h1,h2,h⟩:=h;have ea:=nu h1 (.tmp 0);have et:=nu h2 0;unfold CM at h;split at h
   ·rename_i hx;exact⟨_,h.2,XY ho hc ea et hx h.1⟩
   ·rename_i hx;exact⟨_,h.2,XU ho hc ea et hx h.1⟩
   ·rename_i hx;exact⟨_,h.2,XV ho hc ea et hx h.1⟩
   ·exact h.elim
  ·exact uj (by rw[ho];exact h)
 ·exact uj h
end
section
variable{P:Program}{st:AS}{o:Oper}
theorem KG{c:Call}{x y:Operand}{t u e:TypeId}{id f n s m bT k:Nat}{ob:Ob}{zs:List AV}(ho:o.op= .call c)(hc:c.callee= .builtin .append)(ha:c.args=#[x,y])(hts:c.argTypes=#[t,u])(hx:bE st.sl x= .view id f n s (some m))(hl:lk id st.tb.bx=some ob)(hsz:ob.sz=s)(hel:cU P t=some (e,s,bT))(hf:(f+n)*s<=ob.xs.length)(hroom:f+n+k<=m)(hzl:zs.length=k*s)(hsrc:∀(w0:World) (M0:Mem) (F:Nat->Prop) (g:G) (v:Value) (w:World),aQ w0 M0 F st.tb g w->aX g v (bE st.sl y)->∃cs,Src P u s v k cs w/\aJ g cs zs):dA P st o (.view id f (n+k) s (some m)) (st.tb.aP id {ob with xs:=ob.xs.take ((f+n)*s)++zs++ob.xs.drop ((f+n)*s+k*s)}):=bK fun w0 M0 F g a w hw h=>by
 have h1:=h x (by rw[ho];simp[Op.operands,Call.operands,hc,ha]);rw[hx]at h1;have h2:=h y (by rw[ho];simp[Op.operands,Call.operands,hc,ha]);obtain⟨cs,hsrc,hz⟩:=hsrc w0 M0 F g _ w hw h2;obtain⟨hU,i,z,hi,_,oW,sE,hzs⟩:=fK hel;generalize hv:a.eval x=v at h1;cases h1 with
 |view e h3 h4 h5 hm=>
  rename_i b cc ad;obtain rfl:=hm _ rfl;have yf:yh (ad.map fun a=>a.add (n*s)) b cc (f+n) s:=by
   cases h5 with
   |real off g_ had h5=>
    subst had;refine .real (off+n*s) g_ (by simp[Addr.add_lit]) fun hh=>?_;rw[h5 (by omega),Nat.add_mul]
   |void h0 uV=>
    refine .void h0 ?_;rcases uV with rfl|⟨a',rfl⟩
    ·exact .inl rfl
    ·exact .inr ⟨_,rfl⟩
  obtain⟨w',r1,r0,r2⟩:=m_ (P:=P) (f:=f+n) (n:=k) (k:=k) hw hl e hsz hroom yf hz hsrc.one (Nat.le_refl _) hzl hf;rw[hzl]at r2;refine⟨.slice ad (n+k) (cc-f),w',g,?_,G.le_refl g,r2,.view e (by omega) h4 h5 hm⟩;rw[cT ho hc ha hts,hv];obtain⟨q1,q2,q3,_,_,_⟩:=hsrc;have hfit:n+k<=cc-f:=by omega
  subst oW;have:(Builtin.append_ #[t,u] o.type #[.slice ad n (cc-f),a.eval y]).run P w= .ok (.slice ad (n+k) (cc-f)) w':=by
   cases ad with
   |none=>
    obtain rfl:=r0 rfl;rcases q1 with⟨e',q1⟩|q1<;>simp[Builtin.append_,run_underlying hU,run_underlying q1,sizeOf,typeInfo,hi,q2,hfit,q3]
   |some ad=>
    have r1:=r1 _ rfl;rcases q1 with⟨e',q1⟩|q1<;>simp[Builtin.append_,run_underlying hU,run_underlying q1,sizeOf,typeInfo,hi,q2,hfit,q3,r1]
  rw[this];rfl
theorem aew{u:TypeId}{s:Nat}{ys:List PC}(hu:(aH P u).isSome=true)(hw':∀y∈ys,y.width=s)(hn:∀y∈ys,cw y=true){w0:World}{M0:Mem}{F:Nat->Prop}{tb:Tb}{g:G}{v:Value}{w:World}(hw:aQ w0 M0 F tb g w)(hv:aX g v (.p (.sl ys))):∃cs,Src P u s v ys.length cs w/\aJ g cs (ys.flatMap aU):=by
 obtain⟨ad,cap,us,lZ⟩:=o5 (aZ hv);exact⟨_,Ei (P:=P) hu lZ hw' (w:=w) hw.holds,o7 lZ.pF hn⟩
theorem vC{s:Nat}:∀(l:List PC),(∀y∈l,y.width=s)->(l.flatMap aU).length=l.length*s
 |[],_=>by simp
 |z::l,h=>by
  have hz:=h z (by simp);have e:(aU z).length=s:=by
   rw[<-hz];cases z with
   |agg b l=>cases b<;>simp[aU,PC.width]
   |_=>rfl
  simp only[List.flatMap_cons,dU,List.length_cons];rw[vC l fun q hq=>h q (by simp[hq]),e,Nat.succ_mul];omega
end
section
variable{P:Program}{st:AS}{o:Oper}
theorem A9{z:Array Value}(h:∀v∈z.toList,v.oneCell'=true){n:Nat}:∀v∈(Builtin.zeroCells z n).toList,v.oneCell'=true:=by
 intro v hv;rcases Nat.eq_zero_or_pos z.size with h0|h0
 ·have:(Builtin.zeroCells z n).toList=[]:=mB (by simp[size_zeroCells,h0]);rw[this]at hv;cases hv
 ·rw[oV h0,List.mem_flatten]at hv;obtain⟨l,hl,hv⟩:=hv;rw[List.mem_replicate]at hl;rw[hl.2]at hv;exact h v hv
theorem vl{t u ty e:TypeId}{s bT n cap k:Nat}{w0:World}{M0:Mem}{F:Nat->Prop}{tb:Tb}{g:G}{w:World}(hw:aQ w0 M0 F tb g w)(hel:cU P t=some (e,s,bT)){ad:Option Addr}{y:Value}{olds news:List Value}{zo zs:List AV}(hold:(Builtin.firstCells s n (.slice ad n cap)).run P w.drew= .ok olds.toArray w.drew)(ho:aJ g olds zo)(ho1:∀v∈olds,v.oneCell'=true)(zX:zo.length=n*s)(hsrc:Src P u s y k news w)(hz:aJ g news zs)(hgrow:cap<n+k)(hbound:(n+k)*bT<=140737488355328)(gZ:n+k<=9223372036854775807):∃v' w' g',(Builtin.append_ #[t,u] ty #[.slice ad n cap,y]).run P w= .ok v' w'/\g.le g'/\aQ w0 M0 F (tb.aS ⟨e,s,zo++zs⟩) g' w'/\aX g' v' (.view tb.nx 0 (n+k) s none):=by
 obtain⟨hU,i,z,hi,Am,oW,sE,hzs⟩:=fK hel;subst oW;have hfit:Builtin.nextslicecap (n+k) cap*i.bytes<=281474976710656:=growslice_fits hgrow (by rw[sE];exact hbound);have hrun:=tG (P:=P) (ty:=ty) hU hi Am rfl hold hsrc hgrow gZ hfit;have hge:=grownCap_ge w (n+k) cap e;have hcm:=grownCap_le_maxLen w (n+k) cap e (by unfold maxLen;omega);generalize grownCap w (n+k) cap e=C at*;have hlo:=ho.length;have hlz:=hz.length;have SB:=hsrc.num;have xR:(olds.toArray++news.toArray++Builtin.zeroCells z.cells (C-(n+k))).size=C*i.size:=by
  simp only[Array.size_append,List.size_toArray,size_zeroCells,hzs,hlo,zX,SB];rw[<-Nat.add_mul,<-Nat.add_mul];congr 1;omega
 have hB:Below w.drew.heap.size w.drew (w.drew.alloc (.cells (olds.toArray++news.toArray++Builtin.zeroCells z.cells (C-(n+k))) e)):=(Below.refl _ _).alloc (Nat.le_refl _) _;have hlen:(zo++zs).length=(olds++news).length:=by simp[hlo,hlz]
 have t_:(olds.toArray++news.toArray++Builtin.zeroCells z.cells (C-(n+k))).toList.take (zo++zs).length=olds++news:=by
  rw[hlen];simp only[Array.toList_append];rw[List.take_append_of_le_length (by simp)];exact fY (by simp)
 have hle:(zo++zs).length<=(olds.toArray++news.toArray++Builtin.zeroCells z.cells (C-(n+k))).size:=by rw[hlen];simp only[Array.size_append,List.size_toArray,dU];omega
 have key:=hw.drew.AG (o:=⟨e,i.size,zo++zs⟩) (c:=C) hB (heap_alloc_new w.drew _) xR hcm hle (by rw[t_];exact ho.append hz) (by
  intro v hv;simp only[Array.toList_append,iR]at hv;rcases hv with(hv|hv)|hv
  ·exact ho1 v (by simpa using hv)
  ·exact hsrc.one v (by simpa using hv)
  ·exact A9 (N5 hel hi Am) v hv)
 exact⟨_,_,_,hrun,hw.drew.mD _ _,key,by
  have:=aX.view (g:=g.dw tb.nx w.drew.heap.size C) (id:=tb.nx) (b:=w.drew.heap.size) (c:=C) (o:=0) (n:=n+k) (s:=i.size) (a:=some ⟨w.drew.heap.size,0,none⟩) (m:=none) (by simp[G.dw]) (by omega) hcm (.real 0 (by omega) rfl (fun _=>by simp)) (by simp);simpa using this⟩
end
end Go.Av
