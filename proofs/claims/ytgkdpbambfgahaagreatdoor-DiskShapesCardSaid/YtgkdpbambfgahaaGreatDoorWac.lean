/- DiskShapes, part 3: an abstract interpreter over any program's form, with its proof of soundness; no condition. -/
import Derived.Test.YtgkdpbambfgahaaGreatDoorWab
import Derived.Laws.StructEq
import Derived.ChangeKeysEq
import Derived.Lib.SliceRun
import Derived.Laws.Pointers
import Derived.WalkSpells
set_option linter.all false
set_option maxRecDepth 100000
set_option maxHeartbeats 64000000
namespace Go.Av
open Go.RowKit
section
variable{P:Program}{st:AS}{o:Oper}
def cU(P:Program)(t:TypeId):Option (TypeId×Nat×Nat):=match P.underlying t with
 |some (.slice e)=>match P.info? e with
  |some i=>if i.zero.any (fun z=>decide (z.cells.size=i.size)&&z.cells.toList.all (·.oneCell'))then some (e,i.size,i.bytes)else none
  |none=>none
 |_=>none
structure SU(M:Mem)(v:Value)(xs:List PC)(a:Option Addr)(cap:Nat)(us:List Value):Prop where
 hv:v= .slice a xs.length cap
 hcap:xs.length<=cap
 gZ:cap<=maxLen
 pF:cJ M us xs
 hone:∀u∈cellsOf us,u.oneCell'=true
 hat:∀b,a=some b->(b=⟨b.block,b.off,none⟩/\At M b.block b.off (cellsOf us))\/cap=0
 hnil:a=none->cap=0
theorem o5{M:Mem}{v:Value}{xs:List PC}(h:gO M v (.sl xs)):∃a cap us,SU M v xs a cap us:=by
 cases h with
 |cX=>exact⟨none,0,[],rfl,Nat.le_refl _,Nat.zero_le _,.nil,by simp[cellsOf],by simp,fun _=>rfl⟩
 |rH a=>exact⟨some a,0,[],rfl,Nat.le_refl _,Nat.zero_le _,.nil,by simp[cellsOf],fun _ _=> .inr rfl,fun _=>rfl⟩
 |sl hn hc hm hsz hu h1 hat hs=>
  rename_i b off n cap sz us;have hl:=hs.length;obtain rfl:n=xs.length:=by omega
  exact⟨some ⟨b,off,none⟩,cap,us,rfl,hc,hm,hs,h1,fun b' e=>by injection e with e;subst e;exact .inl ⟨rfl,hat⟩,fun e=>by cases e⟩
theorem dc{M:Mem}{sz:Nat}:∀{us:List Value} {xs:List PC},cJ M us xs->(∀x∈xs,x.width=sz)->∀u∈us,u.cells.size=sz
 |_,_,.nil,_,u,hu=>by cases hu
 |_,_,.cons h hs,hw,u,hu=>by
  rcases List.mem_cons.1 hu with rfl|hu
  ·rw[qN h];exact hw _ (by simp)
  ·exact dc hs (fun x hx=>hw x (by simp[hx])) u hu
theorem gX{w:World}{b:Addr}{len cap size n:Nat}{cs:List Value}(hl:cs.length=n*size)(h:∀j v,cs[j]?=some v->w.cell? (b.add j)=some v):(Builtin.firstCells size n (.slice (some b) len cap)).run P w= .ok cs.toArray w:=run_firstCells_some w size n b len cap cs hl h
theorem lK{M:Mem}{v:Value}{xs:List PC}{a:Option Addr}{cap sz:Nat}{us:List Value}(h:SU M v xs a cap us)(hw:∀x∈xs,x.width=sz){w:World}(hH:gB w M):(Builtin.firstCells sz xs.length v).run P w= .ok (cellsOf us).toArray w:=by
 have hl:=h.pF.length;have iB:=cO us (dc h.pF hw);rw[h.hv];cases a with
 |none=>
  have hc:=h.hnil rfl;have hx:=h.hcap;have:xs=[]:=mB (by omega);subst this;have:us=[]:=mB (by simpa using hl);subst this;simp[run_firstCells_none,cellsOf]
 |some b=>
  rcases h.hat b rfl with⟨e,hat⟩|hc0
  case inr=>
   have hx:=h.hcap;have SV:us=[]:=mB (by omega);have hx0:xs=[]:=mB (by omega);subst SV;subst hx0;exact gX (n:=0) (by simp[cellsOf]) fun j u hj=>by simp[cellsOf]at hj
  refine gX (by rw[iB,hl]) fun j u hj=>?_;rw[e,Addr.add_lit];exact hH _ _ _ (hat j u hj)
theorem Ei{M:Mem}{v:Value}{xs:List PC}{a:Option Addr}{cap sz:Nat}{us:List Value}{u:TypeId}(hu:(aH P u).isSome=true)(h:SU M v xs a cap us)(hw:∀x∈xs,x.width=sz){w:World}(hH:gB w M):Src P u sz v xs.length (cellsOf us) w:=by
 have hl:=h.pF.length;have iB:=cO us (dc h.pF hw);refine⟨.inl ?_,?_,lK h hw hH,lK h hw ⟨fun b o v e=>hH b o v e,hH.g⟩,h.hone,by rw[iB,hl]⟩
 ·obtain⟨s,hs⟩:=Option.isSome_iff_exists.1 hu;unfold aH at hs;split at hs
  ·rename_i e he;exact⟨e,he⟩
  ·cases hs
 ·rw[h.hv];rfl
theorem Iu{s:ByteArray}{u:TypeId}(hu:isStr P u=true){w:World}:Src P u 1 (.string s) (bs s).length ((bs s).map fun b=>Value.int .u8 b.toNat) w:=by
 have hf:∀w:World,(Builtin.firstCells 1 (bs s).length (.string s)).run P w= .ok ((bs s).map fun b=>Value.int .u8 b.toNat).toArray w:=fun w=>by
  simp only[Builtin.firstCells,Sem.run_pure];congr 1;rw[mA];apply Array.ext';simp[bs]
 exact⟨.inr (lF hu),by simp[Builtin.lenOf,mA],hf w,hf _,by simp[Value.oneCell'],by simp⟩
theorem cT{c:Call}{x y:Operand}{t u:TypeId}(ho:o.op= .call c)(hc:c.callee= .builtin .append)(ha:c.args=#[x,y])(ht:c.argTypes=#[t,u])(a:Act)(w:World):(execOp a.eval o).run P w=((Builtin.append_ #[t,u] o.type #[a.eval x,a.eval y]).run P w).andThen fun v w=> .ok (.value v) w:=by
 simp only[execOp,ho,resolve,hc,ha,ht,Sem.run_bind,Sem.run_pure,Result.andThen_ok,invoke,builtin,List.map_toArray,List.map_cons,List.map_nil]
theorem iu(us vs:List Value):cellsOf (us++vs)=cellsOf us++cellsOf vs:=by simp[cellsOf]
theorem fK{t e:TypeId}{sz bT:Nat}(h:cU P t=some (e,sz,bT)):P.underlying t=some (.slice e)/\∃i z,P.info? e=some i/\i.zero=some z/\i.size=sz/\i.bytes=bT/\z.cells.size=sz:=by
 unfold cU at h;split at h
 ·rename_i e' he;split at h
  ·rename_i i hi;split at h
   ·rename_i hz;injection h with h;obtain⟨rfl,rfl,rfl⟩:=by simpa using h
    cases hzz:i.zero with
    |none=>rw[hzz]at hz;simp at hz
    |some z=>rw[hzz]at hz;simp only[Option.any_some,Bool.and_eq_true,decide_eq_true_eq]at hz;exact⟨he,i,z,hi,hzz,rfl,rfl,hz.1⟩
   ·cases h
  ·cases h
 ·cases h
theorem N5{t e:TypeId}{sz bT:Nat}(h:cU P t=some (e,sz,bT)){i:TypeInfo}{z:Value}(hi:P.info? e=some i)(hz:i.zero=some z):∀v∈z.cells.toList,v.oneCell'=true:=by
 unfold cU at h;split at h
 ·split at h
  ·rename_i j hj;split at h
   ·rename_i hzz;injection h with h;obtain⟨rfl,rfl,rfl⟩:=by simpa using h
    rw[hj]at hi;injection hi with hi;subst hi;rw[hz]at hzz;simp only[Option.any_some,Bool.and_eq_true,decide_eq_true_eq]at hzz;exact fun v hv=>List.all_eq_true.1 hzz.2 v hv
   ·cases h
  ·cases h
 ·cases h
theorem o6{t u ty e:TypeId}{i:TypeInfo}(ht:P.underlying t=some (.slice e))(hi:P.info? e=some i){a:Option Addr}{n cap:Nat}{x:Value}{w:World}(hsrc:Src P u i.size x 0 [] w)(hn:n<=cap):(Builtin.append_ #[t,u] ty #[.slice a n cap,x]).run P w= .ok (.slice a n cap) w:=by
 obtain⟨hu,hlen,hcells,_,_,_⟩:=hsrc;rcases hu with⟨e',hu⟩|hu<;>cases a<;>simp[Builtin.append_,run_underlying ht,run_underlying hu,sizeOf,typeInfo,hi,hlen,hn,hcells,storeCells]
def pL(tb:Tb)(dX:Option Nat)(e:TypeId)(sz:Nat):Tb:=⟨tb.bx,(tb.nx,e,sz)::(match dX with|some id=>del id tb.rw|none=>tb.rw),tb.nx+1⟩
theorem uk{w0:World}{M0:Mem}{F:Nat->Prop}{tb:Tb}{g:G}{w:World}(hw:aQ w0 M0 F tb g w){t u ty e:TypeId}{sz bT:Nat}(ht:cU P t=some (e,sz,bT))(hsz:0<sz){v y:Value}{xs ys:List PC}{us':List Value}{a:Option Addr}{cap:Nat}{us:List Value}(hv:SU g.M v xs a cap us)(Ox:∀x∈xs,x.width=sz)(Is:∀x∈ys,x.width=sz)(hys:cJ g.M us' ys)(hsrc:Src P u sz y ys.length (cellsOf us') w)(hbound:(xs.length+ys.length)*bT<=140737488355328)(gZ:xs.length+ys.length<=9223372036854775807){dX:Option Nat}(hright:match dX with|none=>∃m,v= .slice a m m|some id=>lk id tb.rw=some (e,sz)/\g.rv id=some v):∃v' w' g',(Builtin.append_ #[t,u] ty #[v,y]).run P w= .ok v' w'/\g.le g'/\aQ w0 M0 F (pL tb dX e sz) g' w'/\aX g' v' (.own tb.nx (xs++ys)):=by
 have toApp:∀{g':G} {w':World},aQ w0 M0 F (tb.bU e sz) g' w'->aQ w0 M0 F (pL tb dX e sz) g' w':=fun h=>
  h.sub (fun _ _ e=>e) (fun i r er=>by
   simp only[pL,Tb.bU,a_]at er⊢;split at er
   ·rename_i hi;rw[if_pos hi];exact er
   ·rename_i hi;rw[if_neg hi];cases dX with
    |none=>exact er
    |some id=>simp only[cu]at er;split at er;cases er;exact er) (Nat.le_refl _)
 obtain⟨hU,i,z,hi,hz,oW,sE,hzs⟩:=fK ht;subst oW;have UQ:=hv.pF.length;have hly:=hys.length;have hcx:=cO us (dc hv.pF Ox);have hcy:=cO us' (dc hys Is);have Oy:∀x∈us++us',x.cells.size=i.size:=fun x hx=>by
  rcases iR.1 hx with hx|hx
  ·exact dc hv.pF Ox x hx
  ·exact dc hys Is x hx
 have hone:∀x∈cellsOf (us++us'),x.oneCell'=true:=fun x hx=>by
  rw[iu]at hx;rcases iR.1 hx with hx|hx
  ·exact hv.hone x hx
  ·exact hsrc.one x hx
 have Bb:∀{N:Mem},g.M.le N->cJ N (us++us') (xs++ys):=fun h=>(hv.pF.mono h).append (hys.mono h);have ak5:(xs++ys).length=xs.length+ys.length:=dU;have Oz:(cellsOf (us++us')).length=(xs.length+ys.length)*i.size:=by rw[cO _ Oy];simp;rw[UQ,hly]
 have p_:=hv.hv;rcases Nat.lt_or_ge cap (xs.length+ys.length)with hgrow|hroom
 ·
  have hfit:Builtin.nextslicecap (xs.length+ys.length) cap*i.bytes<=281474976710656:=growslice_fits hgrow (by rw[sE];exact hbound);have hold:=lK (P:=P) hv Ox (w:=w.drew) ⟨fun b o v e=>hw.holds b o v e,hw.holds.g⟩;have hrun:=tG (P:=P) (ty:=ty) hU hi hz p_ hold hsrc hgrow gZ hfit;have hge:=grownCap_ge w (xs.length+ys.length) cap e;have hcm:=grownCap_le_maxLen w (xs.length+ys.length) cap e (by unfold maxLen;omega);generalize grownCap w (xs.length+ys.length) cap e=C at*;have xR:((cellsOf us).toArray++(cellsOf us').toArray++Builtin.zeroCells z.cells (C-(xs.length+ys.length))).size=C*i.size:=by
   simp only[Array.size_append,List.size_toArray,size_zeroCells,hcx,hcy,hzs,UQ,hly];rw[<-Nat.add_mul,<-Nat.add_mul];congr 1;omega
  have hB:Below w.drew.heap.size w.drew (w.drew.alloc (.cells ((cellsOf us).toArray++(cellsOf us').toArray++Builtin.zeroCells z.cells (C-(xs.length+ys.length))) e)):=(Below.refl _ _).alloc (Nat.le_refl _) _;obtain⟨hs,hM,hat⟩:=hw.drew.acQ (el:=e) (sz:=i.size) (n:=xs.length+ys.length) (cap:=C) hB (heap_alloc_new w.drew _) xR hge hcm hsz;have t_:((cellsOf us).toArray++(cellsOf us').toArray++Builtin.zeroCells z.cells (C-(xs.length+ys.length))).toList.take ((xs.length+ys.length)*i.size)=cellsOf (us++us'):=by
   rw[<-Oz,iu];simp only[Array.toList_append,dU];rw[List.take_append_of_le_length (by simp)];exact fY (by simp)
  rw[t_]at hs hM hat;have hle:=hw.drew.xS (.slice (some ⟨w.heap.size,0,none⟩) (xs.length+ys.length) C);refine⟨.slice (some ⟨w.heap.size,0,none⟩) (xs.length+ys.length) C,_,(g.with (g.M.ext w.heap.size (cellsOf (us++us')))).cY tb.nx (.slice (some ⟨w.heap.size,0,none⟩) (xs.length+ys.length) C),hrun,(G.oN hM).trans ⟨Mem.le_refl _,fun _ _ e=>e,fun j p ej=>?_⟩,toApp hs,.own (by simp[G.cY]) ?_⟩
  ·have:=hw.oc ej;simp only[G.cY];rw[if_neg (by omega)];exact ej
  ·exact .sl (sz:=i.size) (by simp;omega) (by omega) hcm hsz Oy hone hat (Bb hM)
 ·cases dX with
  |none=>
   obtain⟨m,Ej⟩:=hright;rw[p_]at Ej;injection Ej with _ e1 e2;have e3:xs.length=cap:=by omega
   have hy0:ys=[]:=mB (by omega);subst hy0;have SV:us'=[]:=mB (by simpa using hly);subst SV;have hrun:=o6 (P:=P) (ty:=ty) (n:=xs.length) (cap:=cap) (a:=a) hU hi (by simpa[cellsOf]using hsrc) hv.hcap;rw[<-p_]at hrun;have hs:=hw.sj e i.size a cap;have hvc:v= .slice a cap cap:=by rw[p_,e3]
   rw[<-hvc]at hs;refine⟨v,w,_,hrun,hw.xS v,toApp hs,.own (by simp[G.cY]) ?_⟩
   ·rw[List.append_nil];show gO g.M v (.sl xs);rw[p_];cases a with
    |none=>
     have hx:=hv.hnil rfl;have:=hv.hcap;have:xs=[]:=mB (by omega);subst this;rw[hx];exact .cX
    |some b=>
     rcases hv.hat b rfl with⟨eb,hat⟩|hc0
     case inr=>
      have:=hv.hcap;have:xs=[]:=mB (by omega);subst this;rw[hc0];exact .rH b
     rw[eb];exact .sl (sz:=i.size) (by omega) hv.hcap hv.gZ hsz (dc hv.pF Ox) hv.hone hat hv.pF
  |some id=>
   obtain⟨hid,MG⟩:=hright;obtain⟨v0,f1,f2⟩:=hw.rows id e i.size hid;rw[MG]at f1;injection f1 with f1;subst f1;rcases f2 with⟨a',m,Ej⟩|⟨b,n,cap',cur,f3,f4,⟨tt,fz,f5,fo⟩,f6,f7,f8,f9,f10,f11⟩
   ·
    rw[p_]at Ej;injection Ej with e0 e1 e2;have e3:xs.length=cap:=by omega
    have hy0:ys=[]:=mB (by omega);subst hy0;have SV:us'=[]:=mB (by simpa using hly);subst SV;have hrun:=o6 (P:=P) (ty:=ty) (n:=xs.length) (cap:=cap) (a:=a) hU hi (by simpa[cellsOf]using hsrc) hv.hcap;rw[<-p_]at hrun;have hs:=hw.sj e i.size a cap;have hvc:v= .slice a cap cap:=by rw[p_,e3]
    rw[<-hvc]at hs;refine⟨v,w,_,hrun,hw.xS v,toApp hs,.own (by simp[G.cY]) ?_⟩
    ·rw[List.append_nil];show gO g.M v (.sl xs);rw[p_];cases a with
     |none=>
      have hx:=hv.hnil rfl;have:=hv.hcap;have:xs=[]:=mB (by omega);subst this;rw[hx];exact .cX
     |some b=>
      rcases hv.hat b rfl with⟨eb,hat⟩|hc0
      case inr=>
       have:=hv.hcap;have:xs=[]:=mB (by omega);subst this;rw[hc0];exact .rH b
      rw[eb];exact .sl (sz:=i.size) (by omega) hv.hcap hv.gZ hsz (dc hv.pF Ox) hv.hone hat hv.pF
   ·
    rw[p_]at f3;injection f3 with e0 e1 e2;subst e1;subst e2;subst e0;have ajd:At g.M b 0 (cellsOf us):=by
     rcases hv.hat _ rfl with⟨_,h⟩|hc0
     ·exact h
     ·have:=hv.hcap;have SV:us=[]:=mB (by omega);subst SV;exact fun j v e=>by simp[cellsOf]at e
    have UY:cur.toList.take (xs.length*i.size)=cellsOf us:=by
     apply List.ext_getElem?;intro j;rw[List.getElem?_take];split
     ·rename_i hj;have hj':j<(cellsOf us).length:=by rw[hcx,UQ];exact hj
      have h1:=hw.holds _ _ _ (ajd j _ (kq hj'));unfold World.cell? at h1;rw[f5]at h1;simp only[Option.isSome_none,Bool.false_eq_true,if_false,Nat.zero_add]at h1;rw[kq hj',<-h1];simp
     ·rename_i hj
      symm;rw[List.getElem?_eq_none_iff];rw[hcx,UQ];omega
    have hfit:xs.length*i.size+(cellsOf us').length<=cur.size:=by rw[hcy,hly,<-Nat.add_mul];exact Nat.le_trans (Nat.mul_le_mul_right _ hroom) f6
    have hrun:=B8 (P:=P) (ty:=ty) hU hi (sLen:=xs.length) (sCap:=cap) f5 fo.fz hsrc hroom hfit;rw[<-p_]at hrun;generalize OA:(cur.toList.take (xs.length*i.size)++cellsOf us'++cur.toList.drop (xs.length*i.size+(cellsOf us').length)).toArray=cur' at hrun;have hsize:cur'.size=cur.size:=by
     rw[<-OA];simp only[List.size_toArray,dU,List.length_take,List.length_drop,Array.length_toList];omega
    have hxl:(cur.toList.take (xs.length*i.size)).length=xs.length*i.size:=by rw[UY,hcx,UQ]
    have t_:cur'.toList.take ((xs.length+ys.length)*i.size)=cellsOf (us++us'):=by
     rw[<-Oz,iu,<-OA,UY];simp only[dU];rw[List.take_append_of_le_length (by simp)];exact fY (by simp)
    have hsame:∀j,j<xs.length*i.size->cur'[j]?=cur[j]?:=fun j hj=>by
     rw[<-OA,List.getElem?_toArray,List.append_assoc,List.getElem?_append_left (by rw[hxl];exact hj),List.getElem?_take,if_pos hj];simp
    rw[p_]at MG;obtain⟨hs,hM,hat⟩:=hw.V_ (n':=xs.length+ys.length) hid MG f5 hsize hsame (by omega) hroom f7;rw[t_]at hs hM hat;refine⟨_,_,(g.with fun b' o=>if b'=b then(cellsOf (us++us'))[o]? else g.M b' o).cY tb.nx (.slice (some ⟨b,0,none⟩) (xs.length+ys.length) cap),hrun,(G.oN hM).trans ⟨Mem.le_refl _,fun _ _ e=>e,fun j p ej=>?_⟩,hs,.own (v:= .slice (some ⟨b,0,none⟩) (xs.length+ys.length) cap) (by simp[G.cY]) ?_⟩
    ·have:=hw.oc ej;simp only[G.cY];rw[if_neg (by omega)];exact ej
    ·exact .sl (sz:=i.size) (by simp;omega) (by omega) f8 hsz Oy hone hat (Bb hM)
theorem um{c:Call}{x y:Operand}{t u e:TypeId}{sz bT:Nat}{xs ys:List PC}{dX:Option Nat}(ho:o.op= .call c)(hc:c.callee= .builtin .append)(ha:c.args=#[x,y])(hts:c.argTypes=#[t,u])(ht:cU P t=some (e,sz,bT))(hsz:0<sz)(hu:(aH P u).isSome=true)(Ox:∀x∈xs,x.width=sz)(Is:∀x∈ys,x.width=sz)(hbound:(xs.length+ys.length)*bT<=140737488355328)(gZ:xs.length+ys.length<=9223372036854775807)(hy:(bE st.sl y).nm= .p (.sl ys)\/ys=[]/\(bE st.sl y).nm= .p .nil)(hx:match dX with|none=>bE st.sl x= .full xs\/xs=[]/\bE st.sl x= .p .nil|some id=>bE st.sl x= .own id xs/\lk id st.tb.rw=some (e,sz)):dA P st o (.own st.tb.nx (xs++ys)) (pL st.tb dX e sz):=bK fun w0 M0 F g a w hw h=>by
 have h1:=h x (by rw[ho];simp[Op.operands,Call.operands,hc,ha]);have h2:=bP (h y (by rw[ho];simp[Op.operands,Call.operands,hc,ha]));have hys:gO g.M (a.eval y) (.sl ys):=by
  rcases hy with hy|⟨rfl,hy⟩
  ·rw[hy]at h2;exact aZ h2
  ·rw[hy]at h2;have:=aZ h2;generalize a.eval y=v at this;cases this;exact .cX
 obtain⟨a',cap',us',XH⟩:=o5 hys;have hsrc:=Ei (u:=u) hu XH Is hw.holds;cases dX with
 |none=>
  simp only at hx;have hxx:∃ad m,a.eval x= .slice ad m m/\gO g.M (a.eval x) (.sl xs):=by
   rcases hx with hx|⟨rfl,hx⟩
   ·rw[hx]at h1;generalize a.eval x=v at h1;cases h1 with
    |full hr=>exact⟨_,_,rfl,hr⟩
   ·rw[hx]at h1;have:=aZ h1;generalize a.eval x=v at this;cases this;exact⟨none,0,rfl,.cX⟩
  obtain⟨ad,m,em,hr⟩:=hxx;obtain⟨a1,FR,us1,CF⟩:=o5 hr;obtain⟨v',w',g',hrun,hle,hs,hv⟩:=uk (P:=P) (ty:=o.type) hw ht hsz CF Ox Is XH.pF hsrc hbound gZ (dX:=none) ⟨m,by
   have:=CF.hv;rw[em]at this;injection this with q1 q2 q3;subst q1;exact em⟩
  exact⟨v',w',g',by rw[cT ho hc ha hts,hrun];rfl,hle,hs,hv⟩
 |some id=>
  obtain⟨hx,hid⟩:=hx;rw[hx]at h1;generalize hvx:a.eval x=v at h1;cases h1 with
  |own MG hr=>
   obtain⟨a1,FR,us1,CF⟩:=o5 hr;obtain⟨v',w',g',hrun,hle,hs,hv⟩:=uk (P:=P) (ty:=o.type) hw ht hsz CF Ox Is XH.pF hsrc hbound gZ (dX:=some id) ⟨hid,MG⟩;exact⟨v',w',g',by rw[cT ho hc ha hts,hvx,hrun];rfl,hle,hs,hv⟩
theorem Bc{c:Call}{x y:Operand}{t u e:TypeId}{bT:Nat}{xs:List PC}{s:ByteArray}{dX:Option Nat}(ho:o.op= .call c)(hc:c.callee= .builtin .append)(ha:c.args=#[x,y])(hts:c.argTypes=#[t,u])(ht:cU P t=some (e,1,bT))(hu:isStr P u=true)(Ox:∀x∈xs,x.width=1)(hbound:(xs.length+(bs s).length)*bT<=140737488355328)(gZ:xs.length+(bs s).length<=9223372036854775807)(hy:(bE st.sl y).nm= .p (.sc (.string s)))(hx:match dX with|none=>bE st.sl x= .full xs\/xs=[]/\bE st.sl x= .p .nil|some id=>bE st.sl x= .own id xs/\lk id st.tb.rw=some (e,1)):dA P st o (.own st.tb.nx (xs++af (bs s))) (pL st.tb dX e 1):=bK fun w0 M0 F g a w hw h=>by
 have h1:=h x (by rw[ho];simp[Op.operands,Call.operands,hc,ha]);have h2:=bP (h y (by rw[ho];simp[Op.operands,Call.operands,hc,ha]));rw[hy]at h2;have h2:=bF h2;have Is:∀x∈af (bs s),x.width=1:=by simp[af,PC.width]
 have hlen:(af (bs s)).length=(bs s).length:=by simp[af]
 have hsrc:=Iu (P:=P) (s:=s) (u:=u) hu (w:=w);have UZ:Src P u 1 (a.eval y) (af (bs s)).length (cellsOf ((bs s).map fun b=>Value.int .u8 b.toNat)) w:=by
  rw[h2,hlen,gL];exact hsrc
 cases dX with
 |none=>
  simp only at hx;have hxx:∃ad m,a.eval x= .slice ad m m/\gO g.M (a.eval x) (.sl xs):=by
   rcases hx with hx|⟨rfl,hx⟩
   ·rw[hx]at h1;generalize a.eval x=v at h1;cases h1 with
    |full hr=>exact⟨_,_,rfl,hr⟩
   ·rw[hx]at h1;have:=aZ h1;generalize a.eval x=v at this;cases this;exact⟨none,0,rfl,.cX⟩
  obtain⟨ad,m,em,hr⟩:=hxx;obtain⟨a1,FR,us1,CF⟩:=o5 hr;obtain⟨v',w',g',hrun,hle,hs,hv⟩:=uk (P:=P) (ty:=o.type) hw ht (by decide) CF Ox Is (kK g.M (bs s)) UZ (by rw[hlen];exact hbound) (by rw[hlen];exact gZ) (dX:=none) ⟨m,by
   have:=CF.hv;rw[em]at this;injection this with q1 q2 q3;subst q1;exact em⟩
  exact⟨v',w',g',by rw[cT ho hc ha hts,hrun];rfl,hle,hs,hv⟩
 |some id=>
  obtain⟨hx,hid⟩:=hx;rw[hx]at h1;generalize hvx:a.eval x=v at h1;cases h1 with
  |own MG hr=>
   obtain⟨a1,FR,us1,CF⟩:=o5 hr;obtain⟨v',w',g',hrun,hle,hs,hv⟩:=uk (P:=P) (ty:=o.type) hw ht (by decide) CF Ox Is (kK g.M (bs s)) UZ (by rw[hlen];exact hbound) (by rw[hlen];exact gZ) (dX:=some id) ⟨hid,MG⟩;exact⟨v',w',g',by rw[cT ho hc ha hts,hvx,hrun];rfl,hle,hs,hv⟩
end
theorem Bm(zs:List Value):∀(k off:Nat) (cs:Array Value),off+k+zs.length<=cs.size->((zs.zipIdx k).foldl (fun cs (p:Value×Nat)=>cs.setIfInBounds (off+p.2) p.1) cs).toList=cs.toList.take (off+k)++zs++cs.toList.drop (off+k+zs.length):=by
 induction zs with
 |nil=>intro k off cs h;simp
 |cons z zs ih=>
  intro k off cs h;simp only[List.length_cons]at h;simp only[List.zipIdx_cons,List.foldl_cons];rw[ih (k+1) off (cs.setIfInBounds (off+k) z) (by simp;omega)];rw[Array.toList_setIfInBounds];rw[show off+(k+1)=off+k+1 by omega];rw[List.take_set,List.drop_set_of_lt (by omega)];have h1:(cs.toList.take (off+k+1)).set (off+k) z=cs.toList.take (off+k)++[z]:=by
   have:off+k<cs.toList.length:=by simp;omega
   rw[iA this];rw[List.set_append_right _ _ (by simp;omega)];have:off+k-(cs.toList.take (off+k)).length=0:=by simp;omega
   rw[this];rfl
  rw[h1];simp only[List.append_assoc,List.cons_append,List.nil_append,List.length_cons];rw[show off+k+1+zs.length=off+k+(zs.length+1) by omega]
section
variable{P:Program}{st:AS}{o:Oper}
def aR(P:Program)(t:TypeId)(i:Nat):Option (Nat×Nat):=match P.underlying t with
 |some (.struct fs)=>match fs[i]? with
  |some f=>match aO P f.type with
   |some s=>some (f.offset,s)
   |none=>none
  |none=>none
 |some (.array _ e)=>match aO P e with
  |some s=>some (i*s,s)
  |none=>none
 |some (.slice e)=>match aO P e with
  |some s=>some (i*s,s)
  |none=>none
 |_=>none
def oF(P:Program)(t:TypeId):List AV->List (Nat×AV)->Option (List AV)
 |cs,[]=>some cs
 |cs,(i,v)::rest=>match aR P t i,v.cR with
  |some (off,s),some zs=>if zs.length=s/\off+s<=cs.length then oF P t (cs.take off++zs++cs.drop (off+s)) rest else none
  |_,_=>none
theorem zR{t:TypeId}{g:G}{place:Nat->Option (Nat×Nat)}(hp:∀i q,aR P t i=some q->place i=some q):∀(parts:List (Nat×Value)) (ps:List (Nat×AV)) (cs:Array Value) (xs zs:List AV),aJ g cs.toList xs->(∀u∈cs.toList,u.oneCell'=true)->parts.map (·.1)=ps.map (·.1)->aJ g (parts.map (·.2)) (ps.map (·.2))->oF P t xs ps=some zs->∃ds,Instr.fill place cs parts=some ds/\aJ g ds.toList zs/\(∀u∈ds.toList,u.oneCell'=true)
 |[],[],cs,xs,zs,h1,h2,_,_,hf=>by simp only[oF,Option.some.injEq]at hf;subst hf;exact⟨cs,rfl,h1,h2⟩
 |[],_::_,_,_,_,_,_,hm,_,_=>by simp at hm
 |_::_,[],_,_,_,_,_,hm,_,_=>by simp at hm
 |(i,v)::parts,(i',x)::ps,cs,xs,zs,h1,h2,hm,hr,hf=>by
  simp only[List.map_cons,List.cons.injEq]at hm hr;obtain⟨rfl,hm⟩:=hm;cases hr with
  |cons hv hr=>
   simp only[oF]at hf;split at hf
   ·rename_i off s ys hpl hys;split at hf
    ·rename_i hc;obtain⟨Gc,Db⟩:=hc;obtain⟨q1,q2⟩:=oY hv hys;have rR:=h1.length;have Jm:=q1.length;have hvs:v.cells.size=s:=by rw[<-Gc,<-Jm];simp
     have hle:off+0+v.cells.toList.length<=cs.size:=by simp at rR Jm⊢;omega
     have gT:=Bm v.cells.toList 0 off cs hle;simp only[Nat.add_zero]at gT;have EP:v.cells.zipIdx.foldl (fun cs (c,j)=>cs.setIfInBounds (off+j) c) cs=(v.cells.toList.zipIdx 0).foldl (fun cs (p:Value×Nat)=>cs.setIfInBounds (off+p.2) p.1) cs:=by
      rw[<-Array.foldl_toList];simp
     generalize hd:(v.cells.toList.zipIdx 0).foldl (fun cs (p:Value×Nat)=>cs.setIfInBounds (off+p.2) p.1) cs=ds at gT EP;have akv:aJ g ds.toList (xs.take off++ys++xs.drop (off+s)):=by
      rw[gT];have e:v.cells.toList.length=s:=by simpa using hvs
      rw[e];exact((h1.take off).append q1).append (h1.drop (off+s))
     have akw:∀u∈ds.toList,u.oneCell'=true:=fun u hu=>by
      rw[gT]at hu;simp only[iR]at hu;rcases hu with(hu|hu)|hu
      ·exact h2 u (jH hu)
      ·exact q2 u hu
      ·exact h2 u (List.mem_of_mem_drop hu)
     obtain⟨es,e1,e2,e3⟩:=zR hp parts ps ds _ zs akv akw hm hr hf;refine⟨es,?_,e2,e3⟩;simp only[Instr.fill,hp _ _ hpl];rw[if_neg (by simp[hvs];simp at rR;omega),EP];exact e1
    ·cases hf
   ·cases hf
def dF(e:Operand->AV)(ps:Array (Nat×Operand)):List (Nat×AV):=ps.toList.map fun p=>(p.1,e p.2)
theorem jz{g:G}{a:Act}{sl:Nat->AV}:∀(l:List Operand),(∀y∈l,aX g (a.eval y) (bE sl y))->aJ g (l.map a.eval) (l.map (bE sl))
 |[],_=> .nil
 |y::l,h=> .cons (h y (by simp)) (jz l fun z hz=>h z (by simp[hz]))
theorem IE{t:TypeId}{zs:List PC}(h:bG P t=some zs):∃i z,P.info? t=some i/\i.zero=some z/\zs=z.cells.toList.map c1/\∀u∈z.cells.toList,u.oneCell'=true:=by
 unfold bG at h;split at h
 ·rename_i z hz;split at h
  ·rename_i hall;injection h with h;cases hi:P.info? t with
   |none=>rw[hi]at hz;cases hz
   |some i=>rw[hi]at hz;exact⟨i,z,rfl,by simpa using hz,h.symm,List.all_eq_true.1 hall⟩
  ·cases h
 ·cases h
theorem run_places{fs:Array Field}{w:World}{qs:List (Nat×Nat)}(h:fs.toList.mapM (fun f=>(aO P f.type).map fun s=>(f.offset,s))=some qs):(fs.mapM fun(f:Field)=>(do pure (f.offset,<-sizeOf f.type):Sem (Nat×Nat))).run P w= .ok qs.toArray w:=by
 rw[Array.mapM_eq_mapM_toList];have:∀(l:List Field) (qs:List (Nat×Nat)),l.mapM (fun f=>(aO P f.type).map fun s=>(f.offset,s))=some qs->((l.mapM fun f=>(do pure (f.offset,<-sizeOf f.type):Sem (Nat×Nat))).run P w)= .ok qs w:=by
  intro l
  induction l with
  |nil=>intro qs h;simp at h;subst h;simp
  |cons f l ih=>
   intro qs h;simp only[List.mapM_cons]at h⊢;cases hs:aO P f.type with
   |none=>rw[hs]at h;simp at h
   |some s=>
    rw[hs]at h;cases hl:l.mapM (fun f=>(aO P f.type).map fun s=>(f.offset,s))with
    |none=>rw[hl]at h;simp at h
    |some qs'=>
     rw[hl]at h;simp at h;subst h;have:=ih qs' hl;simp only[Sem.run_bind,run_sizeOf hs,Result.andThen_ok,Sem.run_pure,this]
 rw[Sem.run_map,this _ _ h];rfl
def bu(P:Program)(t:TypeId):Bool:=match P.underlying t with
 |some (.struct fs)=>(fs.toList.mapM (fun f=>(aO P f.type).map fun s=>(f.offset,s))).isSome
 |some (.array _ e)=>(aO P e).isSome
 |_=>false
theorem SP{t:TypeId}{ps:Array (Nat×Operand)}{z:List PC}{zs:List AV}{sl:Nat->AV}(ho:o.op= .build t ps)(hz:bG P t=some z)(hok:bu P t=true)(hf:oF P t (z.map .p) (dF (bE sl) ps)=some zs):cP P sl o (.agg false zs):=dx fun w0 M0 F tb g a w hw h=>by
 obtain⟨i,zv,hi,Am,rfl,hone⟩:=IE hz;have hr0:aJ g zv.cells.toList ((zv.cells.toList.map c1).map .p):=jZ (tI g.M _ hone);have akx:∀y∈(ps.toList.map (·.2)),aX g (a.eval y) (bE sl y):=fun y hy=>h y (by rw[ho];simpa[Op.operands]using hy);have ZC:=jz (a:=a) (sl:=sl) (ps.toList.map (·.2)) akx;have m1:((ps.map fun(i,x)=>(i,a.eval x)).toList).map (·.1)=(dF (bE sl) ps).map (·.1):=by simp[dF]
 have m2:aJ g (((ps.map fun(i,x)=>(i,a.eval x)).toList).map (·.2)) ((dF (bE sl) ps).map (·.2)):=by
  have e1:(((ps.map fun(i,x)=>(i,a.eval x)).toList).map (·.2))=(ps.toList.map (·.2)).map a.eval:=by simp
  have e2:((dF (bE sl) ps).map (·.2))=(ps.toList.map (·.2)).map (bE sl):=by simp[dF]
  rw[e1,e2];exact ZC
 unfold bu at hok;split at hok
 ·rename_i fs hU;obtain⟨qs,hqs⟩:=Option.isSome_iff_exists.1 hok;have hpl:∀i q,aR P t i=some q->qs.toArray[i]?=some q:=fun i q hq=>by
   unfold aR at hq;rw[hU]at hq;simp only at hq;split at hq
   ·rename_i f FX;split at hq
    ·rename_i s hs;injection hq with hq;subst hq;have key:∀(l:List Field) (qs:List (Nat×Nat)) (i:Nat),l.mapM (fun f=>(aO P f.type).map fun s=>(f.offset,s))=some qs->l[i]?=some f->qs[i]?=some (f.offset,s):=by
      intro l
      induction l with
      |nil=>intro qs i _ h;simp at h
      |cons f' l ih=>
       intro qs i h hi;simp only[List.mapM_cons]at h;cases hs':aO P f'.type with
       |none=>rw[hs']at h;simp at h
       |some s'=>
        rw[hs']at h;cases hl:l.mapM (fun f=>(aO P f.type).map fun s=>(f.offset,s))with
        |none=>rw[hl]at h;simp at h
        |some qs'=>
         rw[hl]at h;simp at h;subst h;cases i with
         |zero=>simp at hi;subst hi;rw[hs]at hs';injection hs' with hs';subst hs';simp
         |succ i=>simp at hi⊢;exact ih qs' i hl hi
     rw[List.getElem?_toArray];exact key fs.toList qs i hqs (by simpa using FX)
    ·cases hq
   ·cases hq
  obtain⟨ds,hd1,hd2,hd3⟩:=zR (place:=(qs.toArray[·]?)) hpl _ _ _ _ _ hr0 hone m1 m2 hf;refine⟨.agg ds,?_,by have:=aX.agg hd2 hd3;simpa using this⟩;have hrun:=run_places (w:=w) hqs;simp only[execOp,ho,Instr.build,Sem.run_bind,zeroValue,typeInfo,run_program,hi,Am,Sem.run_pure,Result.andThen_ok,run_underlying hU,hrun,hd1]
 ·rename_i n e hU;obtain⟨s,hs⟩:=Option.isSome_iff_exists.1 hok;have hpl:∀i q,aR P t i=some q->(fun i=>some (i*s,s)) i=some q:=fun i q hq=>by
   unfold aR at hq;rw[hU]at hq;simp only[hs]at hq;exact hq
  obtain⟨ds,hd1,hd2,hd3⟩:=zR (place:=fun i=>some (i*s,s)) hpl _ _ _ _ _ hr0 hone m1 m2 hf;refine⟨.agg ds,?_,by have:=aX.agg hd2 hd3;simpa using this⟩;simp only[execOp,ho,Instr.build,Sem.run_bind,zeroValue,typeInfo,run_program,hi,Am,Sem.run_pure,Result.andThen_ok,run_underlying hU,run_sizeOf hs,hd1]
 ·cases hok
end
theorem EO{place:Nat->Option (Nat×Nat)}{s:Nat}(hp:∀i,place i=some (i*s,s)):∀(vs:List Value) (k:Nat) (cs:Array Value),(∀v∈vs,v.cells.size=s)->cs.size=(k+vs.length)*s->∃ds,Instr.fill place cs ((vs.zipIdx k).map fun p=>(p.2,p.1))=some ds/\ds.toList=cs.toList.take (k*s)++cellsOf vs
 |[],k,cs,_,hs=>⟨cs,rfl,by simp[cellsOf];rw[fY (by simp;simp at hs;omega)]⟩
 |v::vs,k,cs,hv,hs=>by
  have hv0:=hv v (by simp);simp only[List.length_cons]at hs;have e1:(k+(vs.length+1))*s=k*s+s+vs.length*s:=by rw[Nat.add_mul,Nat.add_mul];omega
  have hle:k*s+0+v.cells.toList.length<=cs.size:=by simp;omega
  have gT:=Bm v.cells.toList 0 (k*s) cs hle;simp only[Nat.add_zero]at gT;have EP:v.cells.zipIdx.foldl (fun cs (c,j)=>cs.setIfInBounds (k*s+j) c) cs=(v.cells.toList.zipIdx 0).foldl (fun cs (p:Value×Nat)=>cs.setIfInBounds (k*s+p.2) p.1) cs:=by
   rw[<-Array.foldl_toList];simp
  generalize hd:(v.cells.toList.zipIdx 0).foldl (fun cs (p:Value×Nat)=>cs.setIfInBounds (k*s+p.2) p.1) cs=ds at gT EP;have ajy:ds.size=cs.size:=by
   have:=congrArg List.length gT;simp at this;omega
  obtain⟨es,f1,f2⟩:=EO hp vs (k+1) ds (fun u hu=>hv u (by simp[hu])) (by rw[ajy,hs];congr 1;omega);refine⟨es,?_,?_⟩
  ·simp only[List.zipIdx_cons,List.map_cons,Instr.fill,hp];rw[if_neg (by simp[hv0];omega),EP];exact f1
  ·rw[f2,gT];have e2:(k+1)*s=k*s+s:=by rw[Nat.add_mul];omega
   have e3:v.cells.toList.length=s:=by simpa using hv0
   have e4:(cs.toList.take (k*s)).length=k*s:=by simp;omega
   rw[e2,List.take_append_of_le_length (by simp;omega)];rw[fY (by simp;omega)];simp[cellsOf]
section
variable{P:Program}{st:AS}{o:Oper}
def bt{α:Type}:Nat->List (Nat×α)->Bool
 |_,[]=>true
 |k,(i,_)::l=>i==k&&bt (k+1) l
theorem wN{α:Type}:∀(l:List (Nat×α)) (k:Nat),bt k l=true->l=((l.map (·.2)).zipIdx k).map fun p=>(p.2,p.1)
 |[],_,_=>rfl
 |(i,v)::l,k,h=>by
  simp only[bt,Bool.and_eq_true,beq_iff_eq]at h;obtain⟨rfl,h⟩:=h;simp only[List.map_cons,List.zipIdx_cons];rw[<-wN l (i+1) h]
theorem j8{t e:TypeId}{sz bT n:Nat}{ps:List (Nat×Value)}{w:World}(ht:cU P t=some (e,sz,bT))(Qw:bt 0 ps=true)(hn:ps.length=n)(oS:n*sz<=16777216)(hsz:0<sz)(hv:∀v∈ps.map (·.2),v.cells.size=sz):(Instr.buildSlice t n ps.toArray).run P w= .ok (.slice (some ⟨w.heap.size,0,none⟩) n n) (w.alloc (.cells (cellsOf (ps.map (·.2))).toArray e)):=by
 obtain⟨hU,i,z,hi,hz,oW,sE,hzs⟩:=fK ht;subst oW;have aex:¬(16777216<n*i.size):=by omega
 obtain⟨ds,f1,f2⟩:=EO (place:=fun k=>some (k*i.size,i.size)) (fun _=>rfl) (ps.map (·.2)) 0 ((Array.range (n*i.size)).map (z.cells[·%z.cells.size]!)) hv (by simp[hn]);rw[<-wN ps 0 Qw]at f1;have hds:ds=(cellsOf (ps.map (·.2))).toArray:=by
  apply Array.ext';rw[f2];simp
 subst hds;by_cases h0:n*i.size=0
 ·have hn0:n=0:=by
   rcases Nat.mul_eq_zero.1 h0 with h|h
   ·exact h
   ·omega
  subst hn0;have:ps=[]:=mB hn;subst this;simp[Instr.buildSlice,run_underlying hU,sizeOf,typeInfo,hi,Instr.fill,newRow,cellsOf];congr 2;apply Array.ext';simp
 ·have hz':(0<n/\0<i.size):=⟨by rcases Nat.eq_zero_or_pos n with h|h;(subst h;simp at h0);exact h,hsz⟩;simp only[Instr.buildSlice,Sem.run_bind,run_underlying hU,Result.andThen_ok,sizeOf,typeInfo,run_program,hi,Sem.run_pure,zeroValue,hz,if_neg h0,if_neg aex,f1,newRow,run_newObj_alloc]
theorem ER:∀(l:List AV) (ys:List PC),dV l=some ys->ys.length=l.length
 |[],ys,h=>by simp[dV]at h;subst h;rfl
 |x::l,ys,h=>by
  cases x<;>simp only[dV]at h<;>try cases h
  split at h
  ·rename_i r hr;injection h with h;subst h;simp[ER l r hr]
  ·cases h
theorem Eh{t e:TypeId}{sz bT n:Nat}{ps:Array (Nat×Operand)}{ys:List PC}{sl:Nat->AV}(ho:o.op= .buildSlice t n ps)(ht:cU P t=some (e,sz,bT))(hsz:0<sz)(Qw:bt 0 ps.toList=true)(hn:ps.size=n)(oS:n*sz<=16777216)(hys:dV (ps.toList.map fun p=>(bE sl p.2).nm)=some ys)(hw':∀y∈ys,y.width=sz)(h1:∀y∈ys,∀b xs,y= .agg b xs->b=false):cP P sl o (.full ys):=B6 fun w0 M0 F tb g a w hw h=>by
 have hr:=mJ (g:=g) (a:=a) (ps.toList.map (·.2)) ys (fun y hy=>h y (by rw[ho];simpa[Op.operands]using hy)) (by rw[List.map_map];exact hys);have jm:=dc hr hw';have qz:(((ps.map fun(i,x)=>(i,a.eval x)).toList).map (·.2))=(ps.toList.map (·.2)).map a.eval:=by simp
 have Gz:bt 0 ((ps.map fun(i,x)=>(i,a.eval x)).toList)=true:=by
  have key:∀(l:List (Nat×Operand)) (k:Nat),bt k l=true->bt k (l.map fun p=>(p.1,a.eval p.2))=true:=by
   intro l
   induction l with
   |nil=>intro k _;rfl
   |cons p l ih=>intro k hk;simp only[bt,Bool.and_eq_true,List.map_cons]at hk⊢;exact⟨hk.1,ih _ hk.2⟩
  have:=key ps.toList 0 Qw;simpa using this
 have hrun:=j8 (P:=P) (w:=w) (n:=n) ht Gz (by simp[hn]) oS hsz (by rw[qz];exact jm);rw[qz]at hrun;have hone:∀u∈cellsOf ((ps.toList.map (·.2)).map a.eval),u.oneCell'=true:=by
  have key:∀{us:List Value} {ys:List PC},cJ g.M us ys->(∀y∈ys,∀b xs,y= .agg b xs->b=false)->∀u∈cellsOf us,u.oneCell'=true:=by
   intro us ys hr
   induction us generalizing ys with
   |nil=>intro _ u hu;simp[cellsOf]at hu
   |cons v us ih=>
    intro hb u hu;cases hr with
    |cons hv hr=>
     rename_i y ys;simp only[cellsOf,List.flatMap_cons,iR]at hu;rcases hu with hu|hu
     ·have hby:=hb y (by simp);by_cases hp:y.plain=true
      ·obtain⟨e1,e2⟩:=iI hv hp;rw[e1]at hu;simp at hu;subst hu;exact e2
      ·cases y with
       |agg b xs=>
        have:=hby b xs rfl;subst this;cases hv with
        |agg hs h1=>exact h1 u (by simpa[Value.cells]using hu)
       |_=>simp[PC.plain]at hp
     ·exact ih hr (fun y hy=>hb y (by simp[hy])) u hu
  exact key hr h1
 obtain⟨e1,e2,e3,e4,e5⟩:=B5 hw (cellsOf ((ps.toList.map (·.2)).map a.eval)) e (0,0);have hlen:ys.length=n:=by have:=ER _ _ hys;simpa[hn]using this
 refine⟨.slice (some ⟨w.heap.size,0,none⟩) n n,_,_,?_,e1,e2,e3,e4,.full (.sl (sz:=sz) (by have:=hr.length;omega) (Nat.le_refl _) ?_ hsz jm hone e5 (hr.mono e1))⟩
 ·have GA:ps.map (fun(p:Nat×Operand)=>(p.1,a.eval p.2))=((ps.map fun(i,x)=>(i,a.eval x)).toList).toArray:=by apply Array.ext';simp
  simp only[execOp,ho,Sem.run_bind];have ze:(Instr.buildSlice t n (ps.map fun(x:Nat×Operand)=>(x.1,a.eval x.2))).run P w= .ok (.slice (some ⟨w.heap.size,0,none⟩) n n) (w.alloc (.cells (cellsOf ((ps.toList.map (·.2)).map a.eval)).toArray e)):=by rw[GA];exact hrun
  rw[ze];rfl
 ·have:n*1<=n*sz:=Nat.mul_le_mul_left _ hsz;unfold maxLen;omega
end
def AV.ren(ρ:Nat->Nat):AV->AV
 | .obj id off=> .obj (ρ id) off
 | .own id xs=> .own (ρ id) xs
 | .agg t xs=> .agg t (dm xs)
 | .lJ f xs=> .lJ f (dm xs)
 | .mE f xs=> .mE f (dm xs)
 | .mW t x=> .mW t (x.ren ρ)
 | .p x=> .p x
 | .full xs=> .full xs
 | .nn xs=> .nn xs
 | .view id o n s c=> .view (ρ id) o n s c
 | .any=> .any
where dm:List AV->List AV
 |[]=>[]
 |x::l=>x.ren ρ::dm l
def AV.fD(m:Nat):AV->Bool
 | .obj id _=>decide (id<m)
 | .own id _=>decide (id<m)
 | .view id _ _ _ _=>decide (id<m)
 | .agg _ xs=>eM xs
 | .lJ _ xs=>eM xs
 | .mE _ xs=>eM xs
 | .mW _ x=>x.fD m
 |_=>true
where eM:List AV->Bool
 |[]=>true
 |x::l=>x.fD m&&eM l
def G.ren(g:G)(ρ:Nat->Nat)(m:Nat):G:=⟨g.M,fun i=>if i<m then g.ob (ρ i)else none,fun i=>if i<m then g.rv (ρ i)else none⟩
mutual
theorem zL{g:G}{ρ:Nat->Nat}{m:Nat}:∀{v:Value} (x:AV),aX g v (x.ren ρ)->x.fD m=true->aX (g.ren ρ m) v x
 |v,.p y,h,_=>by simp only[AV.ren]at h;cases h with|p h1=>exact .p h1
 |v,.obj id off,h,hl=>by
  simp only[AV.ren]at h;simp only[AV.fD,decide_eq_true_eq]at hl;cases h with|obj e=>exact .obj (by simp only[G.ren];rw[if_pos hl];exact e)
 |v,.own id xs,h,hl=>by
  simp only[AV.ren]at h;simp only[AV.fD,decide_eq_true_eq]at hl;cases h with|own e hr=>exact .own (by simp only[G.ren];rw[if_pos hl];exact e) hr
 |v,.full xs,h,_=>by simp only[AV.ren]at h;cases h with|full hr=>exact .full hr
 |v,.nn xs,h,_=>by simp only[AV.ren]at h;cases h with|nn hr=>exact .nn hr
 |v,.view id o n s c,h,hl=>by
  simp only[AV.ren]at h;simp only[AV.fD,decide_eq_true_eq]at hl;cases h with|view e h1 h2 h3 h4=>exact .view (by simp only[G.ren];rw[if_pos hl];exact e) h1 h2 h3 h4
 |v,.agg t xs,h,hl=>by
  simp only[AV.ren]at h;simp only[AV.fD]at hl;cases h with
  |agg hs h1=>exact .agg (fI xs hs hl) h1
  |qi hs=>exact .qi (fI xs hs hl)
 |v,.lJ f xs,h,hl=>by
  simp only[AV.ren]at h;simp only[AV.fD]at hl;cases h with
  |lJ hs=>exact .lJ (fI xs hs hl)
 |v,.mE f xs,h,hl=>by
  simp only[AV.ren]at h;simp only[AV.fD]at hl;cases h with
  |mE hs=>exact .mE (fI xs hs hl)
 |v,.mW t x,h,hl=>by
  simp only[AV.ren]at h;simp only[AV.fD]at hl;cases h with
  |mW h1=>exact .mW (zL x h1 hl)
 |v,.any,_,_=> .any v
theorem fI{g:G}{ρ:Nat->Nat}{m:Nat}:∀{vs:List Value} (xs:List AV),aJ g vs (AV.ren.dm ρ xs)->AV.fD.eM m xs=true->aJ (g.ren ρ m) vs xs
 |_,[],h,_=>by simp only[AV.ren.dm]at h;cases h;exact .nil
 |_,x::xs,h,hl=>by
  simp only[AV.ren.dm]at h;simp only[AV.fD.eM,Bool.and_eq_true]at hl;cases h with|cons h1 hs=>exact .cons (zL x h1 hl.1) (fI xs hs hl.2)
end
theorem gb{ρ:Nat->Nat}:∀(xs:List AV),(AV.ren.dm ρ xs).length=xs.length
 |[]=>rfl
 |_::l=>by simp[AV.ren.dm,gb l]
section
variable{w0:World}{M0:Mem}{F:Nat->Prop}{tb:Tb}{g:G}{w:World}
def O9:Option Ob->Ob->Prop
 |some p,o=>p.el=o.el/\p.sz=o.sz/\o.xs<+:p.xs
 |none,_=>False
def pV(ρ:Nat->Nat)(m:Nat)(bx:List (Nat×Ob)):List (Nat×Ob)->Prop
 |[]=>True
 |(i,o)::l=>i<m/\AV.fD.eM m o.xs=true/\O9 (lk (ρ i) bx) {o with xs:=AV.ren.dm ρ o.xs}/\pV ρ m bx l
def EF(ρ:Nat->Nat)(m:Nat)(rw:List (Nat×TypeId×Nat)):List (Nat×TypeId×Nat)->Prop
 |[]=>True
 |(i,r)::l=>i<m/\lk (ρ i) rw=some r/\EF ρ m rw l
def kQ{α:Type}(ρ:Nat->Nat):List (Nat×α)->Prop
 |[]=>True
 |(i,_)::l=>uy i l/\kQ ρ l
where uy (i:Nat):List (Nat×α)->Prop
 |[]=>True
 |(j,_)::l=>(i=j\/ρ i≠ρ j)/\uy i l
theorem uF{ρ:Nat->Nat}{m:Nat}{bx:List (Nat×Ob)}{i:Nat}{o:Ob}:∀(l:List (Nat×Ob)),pV ρ m bx l->lk i l=some o->i<m/\AV.fD.eM m o.xs=true/\∃p,lk (ρ i) bx=some p/\p.el=o.el/\p.sz=o.sz/\AV.ren.dm ρ o.xs<+:p.xs
 |[],_,h=>by simp[lk]at h
 |(j,p)::l,hr,h=>by
  simp only[lk]at h;split at h
  ·rename_i e;subst e;injection h with h;subst h;have h3:=hr.2.2.1;cases hp:lk (ρ i) bx with
   |none=>rw[hp]at h3;exact h3.elim
   |some p=>rw[hp]at h3;exact⟨hr.1,hr.2.1,p,rfl,h3.1,h3.2.1,h3.2.2⟩
  ·exact uF l hr.2.2.2 h
theorem uG{ρ:Nat->Nat}{m:Nat}{rw:List (Nat×TypeId×Nat)}{i:Nat}{r:TypeId×Nat}:∀(l:List (Nat×TypeId×Nat)),EF ρ m rw l->lk i l=some r->i<m/\lk (ρ i) rw=some r
 |[],_,h=>by simp[lk]at h
 |(j,p)::l,hr,h=>by
  simp only[lk]at h;split at h
  ·rename_i e;subst e;injection h with h;subst h;exact⟨hr.1,hr.2.1⟩
  ·exact uG l hr.2.2 h
theorem zM{α:Type}{ρ:Nat->Nat}{i j:Nat}{o:α}:∀(l:List (Nat×α)),kQ.uy ρ i l->lk j l=some o->i=j\/ρ i≠ρ j
 |[],_,h=>by simp[lk]at h
 |(k,p)::l,hr,h=>by
  simp only[lk]at h;split at h
  ·rename_i e;subst e;exact hr.1
  ·exact zM l hr.2 h
theorem C1{α:Type}{ρ:Nat->Nat}{i j:Nat}{o p:α}:∀(l:List (Nat×α)),kQ ρ l->lk i l=some o->lk j l=some p->i≠j->ρ i≠ρ j
 |[],_,h,_,_=>by simp[lk]at h
 |(k,q)::l,hr,h1,h2,hij=>by
  simp only[lk]at h1 h2;split at h1
  ·rename_i e;subst e;rw[if_neg (fun h=>hij h.symm)]at h2;exact(zM l hr.1 h2).resolve_left hij
  ·split at h2
   ·rename_i e;subst e;exact fun h=>((zM l hr.1 h1).resolve_left fun h=>hij h.symm) h.symm
   ·exact C1 l hr.2 h1 h2 hij
theorem aQ.ren(h:aQ w0 M0 F tb g w){ρ:Nat->Nat}{aM:Tb}(hb:pV ρ aM.nx tb.bx aM.bx)(hr:EF ρ aM.nx tb.rw aM.rw)(ib:kQ ρ aM.bx)(ir:kQ ρ aM.rw):aQ w0 M0 F aM (g.ren ρ aM.nx) w:=by
 have PR:∀i p,(g.ren ρ aM.nx).ob i=some p->g.ob (ρ i)=some p:=fun i p e=>by
  simp only[G.ren]at e;split at e
  ·exact e
  ·cases e
 have PS:∀i p,(g.ren ρ aM.nx).rv i=some p->g.rv (ρ i)=some p:=fun i p e=>by
  simp only[G.ren]at e;split at e
  ·exact e
  ·cases e
 refine⟨h.holds,h.keep,h.old,h.Dm,fun i o e=>?_,fun i el sz e=>?_,fun i j o p b c b' c' ei ej hij e1 e2 p1 p2=>?_,fun i j r s u v b ei ej hij e1 e2 e3=>?_,fun i j o r b c v ei ej e1 e2 p1=>?_,fun i hi=>?_⟩
 ·obtain⟨h1,h2,p,h3,q1,q2,q3⟩:=uF _ hb e;obtain⟨b,c,f1,fr,f0⟩:=h.boxes _ _ h3;have hlen:=q3.length_le;simp only[gb]at hlen;refine⟨b,c,by simp only[G.ren];rw[if_pos h1];exact f1,fun hp=>?_,fun hz=>?_⟩
  ·obtain⟨cur,f2,f3,f4,f5,f6,f7,f8,f9⟩:=fr hp;refine⟨cur,f2,f3,by rw[<-q1];exact f4,by rw[<-q2];exact f5,f6,by omega,fI _ ?_ h2,f9⟩;have e1:(p.xs.take o.xs.length)=AV.ren.dm ρ o.xs:=by
    obtain⟨t,ht⟩:=q3;rw[<-ht,List.take_append_of_le_length (by simp[gb]),fY (by simp[gb])]
   have:=f8.take o.xs.length;rw[List.take_take,Nat.min_eq_left hlen,e1]at this;exact this
  ·rw[f0 hz]at hlen;exact mB (by simpa using hlen)
 ·obtain⟨h1,h2⟩:=uG _ hr e;obtain⟨v,f1,f2⟩:=h.rows _ _ _ h2;exact⟨v,by simp only[G.ren];rw[if_pos h1];exact f1,f2⟩
 ·obtain⟨_,_,_,h3,_⟩:=uF _ hb ei;obtain⟨_,_,_,h4,_⟩:=uF _ hb ej;exact h.f_ _ _ _ _ b c b' c' h3 h4 (C1 _ ib ei ej hij) (PR _ _ e1) (PR _ _ e2) p1 p2
 ·obtain⟨_,h3⟩:=uG _ hr ei;obtain⟨_,h4⟩:=uG _ hr ej;exact h.ia _ _ _ _ u v b h3 h4 (C1 _ ir ei ej hij) (PS _ _ e1) (PS _ _ e2) e3
 ·obtain⟨_,_,_,h3,_⟩:=uF _ hb ei;obtain⟨_,h4⟩:=uG _ hr ej;exact h.fj _ _ _ _ b c v h3 h4 (PR _ _ e1) (PS _ _ e2) p1
 ·simp only[G.ren];rw[if_neg (by omega),if_neg (by omega)];exact⟨rfl,rfl⟩
theorem G.kM{g0 g:G}{ρ:Nat->Nat}{m fC:Nat}(h:g0.le g)(h0:∀i,fC<=i->g0.ob i=none/\g0.rv i=none)(hm:fC<=m)(hρ:∀i,i<fC->ρ i=i):g0.le (g.ren ρ m):=by
 refine⟨h.M,fun i p e=>?_,fun i v e=>?_⟩
 ·have hi:i<fC:=Nat.lt_of_not_le fun hle=>by rw[(h0 i hle).1]at e;cases e
  simp only[G.ren];rw[if_pos (by omega),hρ i hi];exact h.ob _ _ e
 ·have hi:i<fC:=Nat.lt_of_not_le fun hle=>by rw[(h0 i hle).2]at e;cases e
  simp only[G.ren];rw[if_pos (by omega),hρ i hi];exact h.rv _ _ e
def ay{α:Type}(bx:List (Nat×α)):List (Nat×α)->Prop
 |[]=>True
 |(i,o)::l=>lk i bx=some o/\ay bx l
theorem eW{α:Type}{bx:List (Nat×α)}{i:Nat}{o:α}:∀(l:List (Nat×α)),ay bx l->lk i l=some o->lk i bx=some o
 |[],_,h=>by simp[lk]at h
 |(j,p)::l,hr,h=>by
  simp only[lk]at h;split at h
  ·rename_i e;subst e;injection h with h;subst h;exact hr.1
  ·exact eW l hr.2 h
def b_{α:Type}:List (Nat×α)->List (Nat×α)->List (Nat×α)
 |[],l=>l
 |(i,_)::s,l=>del i (b_ s l)
theorem oI{α:Type}{i:Nat}{o:α}:∀(s l:List (Nat×α)),lk i (b_ s l)=some o->lk i s=none/\lk i l=some o
 |[],l,h=>⟨rfl,h⟩
 |(j,p)::s,l,h=>by
  simp only[b_,cu]at h;split at h
  ·cases h
  ·rename_i hne;obtain⟨h1,h2⟩:=oI s l h;exact⟨by simp only[lk];rw[if_neg hne];exact h1,h2⟩
theorem iL{α:Type}{i:Nat}{o:α}:∀(s l:List (Nat×α)),lk i (s++l)=some o->lk i s=some o\/lk i l=some o
 |[],l,h=> .inr h
 |(j,p)::s,l,h=>by
  simp only[List.cons_append,lk]at h⊢;split at h
  ·rename_i e;rw[if_pos e];exact .inl h
  ·rename_i e;rw[if_neg e];exact iL s l h
def Tb.merge(tb ts ts':Tb):Tb:=⟨ts'.bx++b_ ts.bx tb.bx,ts'.rw++b_ ts.rw tb.rw,ts'.nx⟩
def Gt(g:G)(ts:Tb):Nat->Prop:=fun b=>(∃id o c,lk id ts.bx=some o/\g.ob id=some (b,c)/\0<c)\/∃id r v,lk id ts.rw=some r/\g.rv id=some v/\dZ v=some b
theorem aQ.part(h:aQ w0 M0 F tb g w){ts:Tb}(hb:ay tb.bx ts.bx)(hr:ay tb.rw ts.rw)(hn:ts.nx=tb.nx):aQ w g.M (Gt g ts) ts g w:=by
 refine⟨h.holds,sA.refl _ _,fun _ _ _=>rfl,Mem.le_refl _,fun i o e=>?_,fun i el sz e=>?_,fun i j o p b c b' c' ei ej hij e1 e2 p1 p2=>?_,fun i j r s u v b ei ej hij e1 e2 e3=>?_,fun i j o r b c v ei ej e1 e2 p1=>?_,fun i hi=>h.fresh i (by omega)⟩
 ·obtain⟨b,c,f1,fr,f0⟩:=h.boxes _ _ (eW _ hb e);refine⟨b,c,f1,fun hp=>?_,f0⟩;obtain⟨cur,f2,f3,f4,f5,f6,f7,f8,f9⟩:=fr hp;exact⟨cur,.inr (.inl ⟨i,o,c,e,f1,hp⟩),f3,f4,f5,f6,f7,f8,f9⟩
 ·obtain⟨v,f1,f2⟩:=h.rows _ _ _ (eW _ hr e);refine⟨v,f1,f2.imp (fun h=>h) ?_⟩;rintro⟨b,n,cap,cur,h3,h4,h5,h6,h7,h8,h9,h10,h11⟩;exact⟨b,n,cap,cur,h3,.inr (.inr ⟨i,_,v,e,f1,by subst h3;exact de h7⟩),h5,h6,h7,h8,h9,h10,h11⟩
 ·exact h.f_ i j o p b c b' c' (eW _ hb ei) (eW _ hb ej) hij e1 e2 p1 p2
 ·exact h.ia i j r s u v b (eW _ hr ei) (eW _ hr ej) hij e1 e2 e3
 ·exact h.fj i j o r b c v (eW _ hb ei) (eW _ hr ej) e1 e2 p1
theorem aQ.back(h:aQ w0 M0 F tb g w){ts ts':Tb}{g':G}{w':World}(hb:ay tb.bx ts.bx)(hr:ay tb.rw ts.rw)(hle:g.le g')(k:aQ w g.M (Gt g ts) ts' g' w'):aQ w0 M0 F (tb.merge ts ts') g' w':=by
 have hF:∀b,Gt g ts b->w0.heap.size<=b\/F b:=fun b hf=>by
  rcases hf with⟨id,o,c,e,e1,hp⟩|⟨id,r,v,e,e1,e2⟩
  ·obtain⟨cur,f2,_⟩:=(h.boxes _ _ (eW _ hb e)).real e1 hp;exact f2
  ·obtain⟨v',f1,f2⟩:=h.rows _ r.1 r.2 (eW _ hr e);rw[e1]at f1;injection f1 with f1;subst f1;rcases f2 with⟨a,n,rfl⟩|⟨b',n,cap,cur,rfl,f3,f4,f5,f6,_⟩
   ·rw[gI]at e2;cases e2
   ·rw[de f6]at e2;injection e2 with e2;subst e2;exact f3
 have AJ:∀i o b c,lk i (b_ ts.bx tb.bx)=some o->g'.ob i=some (b,c)->0<c->lk i tb.bx=some o/\g.ob i=some (b,c)/\b<w.heap.size/\¬Gt g ts b:=fun i o b c e e1 hp=>by
  obtain⟨d1,d2⟩:=oI _ _ e;obtain⟨b',c',f1,fr,_⟩:=h.boxes _ _ d2;have:=hle.ob _ _ f1;rw[e1]at this;injection this with this;injection this with t1 t2;subst t1;subst t2;obtain⟨cur,f2,f3,⟨tt,fz,f4,fo⟩,_⟩:=fr hp;refine⟨d2,f1,qQ f4,?_⟩;rintro(⟨j,p,c',ej,e2,hp'⟩|⟨j,r,v,ej,e2,e3⟩)
  ·exact h.f_ i j _ _ b c b c' d2 (eW _ hb ej) (fun hij=>by subst hij;rw[d1]at ej;cases ej) f1 e2 hp hp' rfl
  ·exact h.fj i j _ _ b c v d2 (eW _ hr ej) f1 e2 hp e3
 have hrw:∀i r v,lk i (b_ ts.rw tb.rw)=some r->g'.rv i=some v->lk i tb.rw=some r/\g.rv i=some v/\∀b,dZ v=some b->b<w.heap.size/\¬Gt g ts b:=fun i r v e e1=>by
  obtain⟨d1,d2⟩:=oI _ _ e;obtain⟨v',f1,_⟩:=h.rows _ r.1 r.2 d2;have:=hle.rv _ _ f1;rw[e1]at this;injection this with this;subst this;refine⟨d2,f1,fun b hv=>⟨h.Hy d2 f1 hv,?_⟩⟩;rintro(⟨j,p,c',ej,e2,hp'⟩|⟨j,s,u,ej,e2,e3⟩)
  ·exact h.fj j i _ _ b c' v (eW _ hb ej) d2 e2 f1 hp' hv
  ·exact h.ia i j _ _ v u b d2 (eW _ hr ej) (fun hij=>by subst hij;rw[d1]at ej;cases ej) f1 e2 hv e3
 have kbx:∀i o b c,lk i ts'.bx=some o->g'.ob i=some (b,c)->0<c->w.heap.size<=b\/Gt g ts b:=fun i o b c e e1 hp=>by
  obtain⟨cur,f2,_⟩:=(k.boxes _ _ e).real e1 hp;exact f2
 have krw:∀i r v b,lk i ts'.rw=some r->g'.rv i=some v->dZ v=some b->w.heap.size<=b\/Gt g ts b:=fun i r v b e e1 e2=>by
  obtain⟨v',f1,f2⟩:=k.rows _ r.1 r.2 e;rw[e1]at f1;injection f1 with f1;subst f1;rcases f2 with⟨a,n,rfl⟩|⟨b',n,cap,cur,rfl,f3,f4,f5,f6,_⟩
  ·rw[gI]at e2;cases e2
  ·rw[de f6]at e2;injection e2 with e2;subst e2;exact f3
 have hsz:=h.keep.size;have up:∀b,(w.heap.size<=b\/Gt g ts b)->w0.heap.size<=b\/F b:=fun b hb=>hb.elim (fun hb=> .inl (by omega)) (hF b);have apart:∀b b',b<w.heap.size/\¬Gt g ts b->(w.heap.size<=b'\/Gt g ts b')->b≠b':=fun b b' h1 h2 e=>by
  subst e;rcases h2 with h2|h2
  ·omega
  ·exact h1.2 h2
 refine⟨k.holds,h.keep.trans k.keep fun b hb hf=>?_,fun b hb hf=>?_,h.Dm.trans hle.M,fun i o e=>?_,fun i el sz e=>?_,fun i j o p b c b' c' ei ej hij e1 e2 p1 p2=>?_,fun i j r s u v b ei ej hij e1 e2 e3=>?_,fun i j o r b c v ei ej e1 e2 p1=>?_,k.fresh⟩
 ·rcases hF b hf with hf|hf
  ·omega
  ·exact hf
 ·rw[k.old b (by omega) (fun hf'=>by rcases hF b hf' with h1|h1;omega;exact hf h1)];exact h.old b hb hf
 ·simp only[Tb.merge]at e;rcases iL _ _ e with e|e
  ·obtain⟨b,c,f1,fr,f0⟩:=k.boxes _ _ e;refine⟨b,c,f1,fun hp=>?_,f0⟩;obtain⟨cur,f2,f3⟩:=fr hp;exact⟨cur,up b f2,f3⟩
  ·obtain⟨d1,d2⟩:=oI _ _ e;obtain⟨b,c,f1,fr,f0⟩:=h.boxes _ _ d2;refine⟨b,c,hle.ob _ _ f1,fun hp=>?_,f0⟩;obtain⟨cur,f2,f3,⟨tt,fz,f4,fo⟩,f5,f6,f7,f8,f9⟩:=fr hp;obtain⟨_,_,h3,h4⟩:=AJ i o b c e (hle.ob _ _ f1) hp;exact⟨cur,f2,fun off=>by rw[k.old b h3 h4];exact f3 off,⟨tt,fz,(k.keep.block b h3 h4).trans f4,fo⟩,f5,f6,f7,f8.mono hle,f9⟩
 ·simp only[Tb.merge]at e;rcases iL _ _ e with e|e
  ·obtain⟨v,f1,f2⟩:=k.rows _ _ _ e;refine⟨v,f1,f2.imp (fun h=>h) ?_⟩;rintro⟨b,n,cap,cur,h3,h4,h5⟩;exact⟨b,n,cap,cur,h3,up b h4,h5⟩
  ·obtain⟨d1,d2⟩:=oI _ _ e;obtain⟨v,f1,f2⟩:=h.rows _ _ _ d2;obtain⟨_,_,h3⟩:=hrw i _ v e (hle.rv _ _ f1);refine⟨v,hle.rv _ _ f1,f2.imp (fun h=>h) ?_⟩;rintro⟨b,n,cap,cur,g3,g4,⟨tt,fz,g5,fo⟩,g6,g7,g8,g9,g10,g11⟩;obtain⟨q1,q2⟩:=h3 b (by subst g3;exact de g7);exact⟨b,n,cap,cur,g3,g4,⟨tt,fz,(k.keep.block b q1 q2).trans g5,fo⟩,g6,g7,g8,g9,g10.mono hle.M,fun o v e=>g11 o v (by rw[<-k.old b q1 q2];exact e)⟩
 ·simp only[Tb.merge]at ei ej;rcases iL _ _ ei with ei|ei<;>rcases iL _ _ ej with ej|ej
  ·exact k.f_ i j o p b c b' c' ei ej hij e1 e2 p1 p2
  ·obtain⟨_,_,h3,h4⟩:=AJ j p b' c' ej e2 p2;exact fun h=>apart b' b ⟨h3,h4⟩ (kbx i o b c ei e1 p1) h.symm
  ·obtain⟨_,_,h3,h4⟩:=AJ i o b c ei e1 p1;exact apart b b' ⟨h3,h4⟩ (kbx j p b' c' ej e2 p2)
  ·obtain⟨q1,q2,_⟩:=AJ i o b c ei e1 p1;obtain⟨q3,q4,_⟩:=AJ j p b' c' ej e2 p2;exact h.f_ i j o p b c b' c' q1 q3 hij q2 q4 p1 p2
 ·simp only[Tb.merge]at ei ej;rcases iL _ _ ei with ei|ei<;>rcases iL _ _ ej with ej|ej
  ·exact k.ia i j r s u v b ei ej hij e1 e2 e3
  ·obtain⟨_,_,h3⟩:=hrw j s v ej e2;exact fun hv=>apart b b (h3 b hv) (krw i r u b ei e1 e3) rfl
  ·obtain⟨_,_,h3⟩:=hrw i r u ei e1;exact fun hv=>apart b b (h3 b e3) (krw j s v b ej e2 hv) rfl
  ·obtain⟨q1,q2,_⟩:=hrw i r u ei e1;obtain⟨q3,q4,_⟩:=hrw j s v ej e2;exact h.ia i j r s u v b q1 q3 hij q2 q4 e3
 ·simp only[Tb.merge]at ei ej;rcases iL _ _ ei with ei|ei<;>rcases iL _ _ ej with ej|ej
  ·exact k.fj i j o r b c v ei ej e1 e2 p1
  ·obtain⟨_,_,h3⟩:=hrw j r v ej e2;exact fun hv=>apart b b (h3 b hv) (kbx i o b c ei e1 p1) rfl
  ·obtain⟨_,_,h3,h4⟩:=AJ i o b c ei e1 p1;exact fun hv=>apart b b ⟨h3,h4⟩ (krw j r v b ej e2 hv) rfl
  ·obtain⟨q1,q2,_⟩:=AJ i o b c ei e1 p1;obtain⟨q3,q4,_⟩:=hrw j r v ej e2;exact h.fj i j o r b c v q1 q3 q2 q4 p1
end
def aE(P:Program)(f:FuncId)(xs:List AV)(tb:Tb)(r:AV)(aM:Tb):Prop:=dP P f/\∀(g:G) (w:World) (vs:List Value) (F:Nat->Prop),aQ w g.M F tb g w->aJ g vs xs->Calls P f vs.toArray w fun e w'=>∃v g',e= .returned v/\g.le g'/\aQ w g.M F aM g' w'/\aX g' v r
end Go.Av
namespace Go.Av
open Go.RowKit
def Mq(P:Program)(t:TypeId):Option (List (Nat×TypeId)):=match P.underlying t with
 |some (.struct fs)=>if fs.toList.all (fun f=>f.name !="_")=true then some (fs.toList.map fun f=>(f.offset,f.type))else none
 |_=>none
def Dt(P:Program)(t:TypeId):Bool:=!P.stoodInHeld t&&!P.eqGuardType P.depth t
def eqC(P:Program)(t:TypeId):PC->PC->Option Bool
 | .sc (.int k a),.sc (.int k' b)=>if Av.intOf P t=some k/\k=k' then some (a==b)else none
 | .sc (.string a),.sc (.string b)=>if isStr P t=true then some (bs a==bs b)else none
 | .sc (.bool a),.sc (.bool b)=>if isBool P t=true then some (a==b)else none
 |_,_=>none
def eqF(P:Program)(xs ys:List PC):List (Nat×TypeId)->Option Bool
 |[]=>some true
 |(o,t)::l=>match xs[o]?,ys[o]? with
  |some x,some y=>(match eqC P t x y,eqF P xs ys l with
   |some a,some b=>some (a&&b)
   |_,_=>none)
  |_,_=>none
def eqL(P:Program)(xs ys:List PC):Option (List (Nat×TypeId))->Option Bool
 |some l=>eqF P xs ys l
 |none=>none
theorem uU{M:Mem}{u v:Value}(h:gO M u (.sc v)):u=v:=by cases h;rfl
theorem Q8{P:Program}{M:Mem}{t:TypeId}{x y:PC}{r:Bool}{u v:Value}(h:eqC P t x y=some r)(hu:gO M u x)(hv:gO M v y)(d:Nat)(w:World):(Op.equalIn (d+1) t u v).run P w= .ok r w/\P.plainKey t=true:=by
 unfold eqC at h;split at h
 ·split at h
  ·rename_i hc;obtain⟨h1,rfl⟩:=hc;obtain rfl:=uU hu;obtain rfl:=uU hv;injection h with h;unfold intOf at h1;split at h1
   ·rename_i k hk;injection h1 with h1;subst h1;exact⟨by simp[Op.equalIn,run_underlying hk,<-h],by simp[Program.plainKey,hk]⟩
   ·cases h1
  ·cases h
 ·split at h
  ·rename_i hc;obtain rfl:=uU hu;obtain rfl:=uU hv;injection h with h;have hk:P.underlying t=some .string:=by
    unfold isStr at hc;split at hc
    ·rename_i hk;exact hk
    ·cases hc
   rename_i a b;have e:(a==b)=r:=by rw[beq_toListBytes,toList_bs,toList_bs,h]
   exact⟨by simp[Op.equalIn,run_underlying hk,e],by simp[Program.plainKey,hk]⟩
  ·cases h
 ·split at h
  ·rename_i hc;obtain rfl:=uU hu;obtain rfl:=uU hv;injection h with h;have hk:P.underlying t=some .bool:=by
    unfold isBool at hc;split at hc
    ·rename_i hk;exact hk
    ·cases hc
   exact⟨by simp[Op.equalIn,run_underlying hk,<-h],by simp[Program.plainKey,hk]⟩
  ·cases h
 ·cases h
theorem HE{P:Program}{M:Mem}{us vs:List Value}{xs ys:List PC}(hu:cJ M us xs)(hv:cJ M vs ys)(d:Nat)(w:World):∀(fs:List Field) (r:Bool),(∀f∈fs,f.name≠"_")->eqF P xs ys (fs.map fun f=>(f.offset,f.type))=some r->(Op.eqFields (d+1) us.toArray vs.toArray fs).run P w= .ok r w
 |[],r,_,h=>by simp[eqF]at h;subst h;simp[Op.eqFields]
 |f::fs,r,hn,h=>by
  simp only[List.map_cons,eqF]at h;split at h
  ·rename_i x y hx hy;split at h
   ·rename_i a b ha hb;injection h with h;obtain⟨u,z8,Fw⟩:=hu.get hx;obtain⟨v,Q9,yf⟩:=hv.get hy;obtain⟨h1,h2⟩:=Q8 ha Fw yf d w;have p1:=run_part_plain (P:=P) w h2 (xs:=us.toArray) (off:=f.offset) (v:=u) (by simpa using z8);have p2:=run_part_plain (P:=P) w h2 (xs:=vs.toArray) (off:=f.offset) (v:=v) (by simpa using Q9);have ih:=HE hu hv d w fs b (fun g hg=>hn g (by simp[hg])) hb;simp only[Op.eqFields,hn f (by simp),ne_eq,not_false_eq_true,if_true,Sem.run_bind,p1,p2,h1,Result.andThen_ok];subst h;cases a
    ·simp
    ·simpa using ih
   ·cases h
  ·cases h
theorem Q_{P:Program}{M:Mem}{t:TypeId}{us vs:List Value}{xs ys:List PC}{r:Bool}(hu:cJ M us xs)(hv:cJ M vs ys)(h:eqL P xs ys (Mq P t)=some r)(ho:Dt P t=true)(w:World):(Op.equal t (.agg us.toArray) (.agg vs.toArray)).run P w= .ok r w:=by
 unfold Mq at h;split at h
 ·rename_i fs hf;split at h
  ·rename_i hn;have hfs:P.fieldsOf t=fs:=by simp[Program.fieldsOf,hf]
   simp only[Dt,Bool.and_eq_true,Bool.not_eq_true']at ho;have:=run_equalIn_struct (P:=P) w 9999 t us.toArray vs.toArray (by rw[hfs];exact hf) ho.1;show(Op.equalIn (9999+1) t (.agg us.toArray) (.agg vs.toArray)).run P w= .ok r w;rw[this,hfs];exact HE hu hv 9998 w fs.toList r (fun f hm=>by have:=List.all_eq_true.1 hn f hm;simpa using this) h
  ·simp[eqL]at h
 ·simp[eqL]at h
def ug:AV->Option Bool
 | .p .nil=>some true
 | .p (.sl (_::_))=>some false
 | .own _ (_::_)=>some false
 | .full (_::_)=>some false
 | .nn _=>some false
 | .view _ _ (_+1) _ _=>some false
 | .view _ _ _ _ (some (_+1))=>some false
 |_=>none
def qy:AV->Option Bool
 | .p (.sc (.pointer none))=>some true
 | .p (.ref _)=>some false
 | .obj _ _=>some false
 |_=>none
def vZ(P:Program)(t:TypeId):Bool:=match P.underlying t with|some (.pointer _)=>true|_=>false
def uh(k:AV->Prop)(op:BinOp):Option Bool->Prop
 |some b=>(op= .eql/\k (.p (.bool b)))\/(op= .neq/\k (.p (.bool !b)))
 |none=>False
def adT(P:Program)(op:BinOp)(t:TypeId)(k:AV->Prop):AV->AV->Prop
 | .p (.agg false ys),.p (.agg false xs)=>Dt P t=true/\uh k op (eqL P xs ys (Mq P t))
 |y,x=>bC P op t k x y
def xk(P:Program)(op:BinOp)(t:TypeId)(k:AV->Prop)(x:AV):AV->Prop
 | .p .nil=>(aH P t).isSome=true/\uh k op (ug x)
 | .p (.sc (.pointer none))=>vZ P t=true/\uh k op (qy x)
 |y=>adT P op t k y.nm x.nm
def sH(P:Program)(t:TypeId)(k:AV->Prop)(ps:List (Nat×AV)):Prop:=bu P t=true/\match bG P t with
 |some z=>(match oF P t (z.map .p) ps with
  |some zs=>k (.agg false zs)
  |none=>False)
 |none=>False
def cw:PC->Bool
 | .agg b _=>!b
 |_=>true
def zc(P:Program)(t:TypeId)(n:Nat)(k:AV->Prop)(ps:List (Nat×AV)):Prop:=match cU P t with
 |some (_,sz,_)=>0<sz/\bt 0 ps=true/\ps.length=n/\n*sz<=16777216/\match dV (ps.map fun p=>p.2.nm)with
  |some ys=>ys.all (fun y=>y.width==sz&&cw y)=true/\k (.full ys)
  |none=>False
 |none=>False
def Eg(i:Nat)(k:AV->Prop):AV->Prop
 | .agg true xs=>match xs[i]? with
  |some y=>k y
  |none=>False
 |x=>ql i k x.nm
def vr(P:Program)(t:TypeId)(i:Nat)(k:AV->Prop):AV->Prop
 | .agg false xs=>match di P t i with
  |some (off,s,a)=>match ku off s a xs with
   |some y=>k y
   |none=>False
  |none=>False
 |x=>yo P t i k x.nm
def Gv(k:AV->Prop):AV->Prop
 | .obj id off=>k (.obj id off)
 | .mW t x=>k (.mW t x)
 |x=>MB k x.nm
def Qv(P:Program)(op:Op)(e:Operand->AV)(k:AV->Prop):Prop:=match op with
 | .build t ps=>sH P t k (dF e ps)
 | .buildSlice t n ps=>zc P t n k (dF e ps)
 | .extract x i=>Eg i k (e x)
 | .field t x i=>vr P t i k (e x)
 | .nilCheck x=>Gv k (e x)
 | .binOp op t x y _=>xk P op t k (e x) (e y)
 |op=>Jo P op e k
section
variable{P:Program}{sl:Nat->AV}{o:Oper}
theorem XE{x:Operand}{i:Nat}{xs:List AV}{y:AV}(ho:o.op= .extract x i)(hx:bE sl x= .agg true xs)(hy:xs[i]?=some y):cP P sl o y:=dx fun w0 M0 F tb g a w hw h=>by
 have h1:=h x (by simp[ho,Op.operands]);rw[hx]at h1;generalize hv:a.eval x=v at h1;cases h1 with
 |qi hs=>
  obtain⟨u,hu,hr⟩:=hs.get hy;exact⟨u,by simp[execOp,ho,hv,Instr.extract,hu],hr⟩
theorem Ov{t:TypeId}{x:Operand}{i off s:Nat}{ag:Bool}{xs:List AV}{y:AV}(ho:o.op= .field t x i)(hx:bE sl x= .agg false xs)(hf:di P t i=some (off,s,ag))(hp:ku off s ag xs=some y):cP P sl o y:=dx fun w0 M0 F tb g a w hw h=>by
 have h1:=h x (by simp[ho,Op.operands]);rw[hx]at h1;generalize hv:a.eval x=v at h1;cases h1 with
 |agg hs hone=>
  rename_i vs;have hlen:=hs.length;unfold di at hf;split at hf
  ·rename_i fs hU;split at hf
   ·rename_i f FX;split at hf
    ·rename_i s' a' hs' Jl;injection hf with hf;obtain⟨rfl,rfl,rfl⟩:=by simpa using hf
     unfold ku at hp;cases a' with
     |true=>
      simp only[if_true]at hp;split at hp
      ·rename_i hle;injection hp with hp;subst hp;refine⟨.agg ((vs.drop f.offset).take s').toArray,?_,.agg ((hs.drop _).take _) fun u hu=>hone u (List.mem_of_mem_drop (jH hu))⟩;have hrun:=tF (P:=P) (t:=f.type) (a:=true) hs' Jl (vs:=vs) (off:=f.offset) (u:= .agg ((vs.drop f.offset).take s').toArray) (by simp only[if_true];congr 1;apply Array.ext';simp[List.extract]) w;simp[execOp,ho,hv,Instr.field,run_underlying hU,FX,asAgg,hrun]
      ·cases hp
     |false=>
      simp only[Bool.false_eq_true,if_false]at hp;split at hp
      ·obtain⟨u,hu,hr⟩:=hs.get hp;refine⟨u,?_,hr⟩;have hrun:=tF (P:=P) (t:=f.type) (a:=false) hs' Jl (vs:=vs) (off:=f.offset) (u:=u) (by simpa using hu) w;simp[execOp,ho,hv,Instr.field,run_underlying hU,FX,asAgg,hrun]
      ·cases hp
    ·cases hf
   ·cases hf
  ·cases hf
theorem XF{x:Operand}{id off:Nat}(ho:o.op= .nilCheck x)(hx:bE sl x= .obj id off):cP P sl o (.obj id off):=dx fun w0 M0 F tb g a w hw h=>by
 have h1:=h x (by simp[ho,Op.operands]);rw[hx]at h1;generalize hv:a.eval x=v at h1;cases h1 with
 |obj e=>exact⟨_,by simp[execOp,ho,hv],.obj e⟩
theorem XG{x:Operand}{t:TypeId}{y:AV}(ho:o.op= .nilCheck x)(hx:bE sl x= .mW t y):cP P sl o (.mW t y):=dx fun w0 M0 F tb g a w hw h=>by
 have h1:=h x (by simp[ho,Op.operands]);rw[hx]at h1;generalize hv:a.eval x=v at h1;cases h1 with
 |mW e=>exact⟨_,by simp[execOp,ho,hv],.mW e⟩
theorem Gw{t:TypeId}(h:(aH P t).isSome=true):∃e,P.underlying t=some (.slice e):=by
 obtain⟨s,hs⟩:=Option.isSome_iff_exists.1 h;unfold aH at hs;split at hs
 ·rename_i e he;exact⟨e,he⟩
 ·cases hs
theorem Ks{g:G}{v:Value}{x:AV}{b:Bool}(h:aX g v x)(e:ug x=some b):∃a n c,v= .slice a n c/\a.isNone=b:=by
 have ne:∀{v:Value} {M:Mem} {y:PC} {ys:List PC},gO M v (.sl (y::ys))->∃a n c,v= .slice a n c/\a.isNone=false:=fun h=>by
  cases h with
  |sl _ _ _ _ _ _ _ _=>exact⟨_,_,_,rfl,rfl⟩
 unfold ug at e;split at e
 ·injection e with e;subst e;cases h with|p h=>cases h;exact⟨_,_,_,rfl,rfl⟩
 ·injection e with e;subst e;cases h with|p h=>exact ne h
 ·injection e with e;subst e;cases h with|own _ h=>exact ne h
 ·injection e with e;subst e;cases h with|full h=>exact ne h
 ·injection e with e;subst e;cases h with|nn _=>exact⟨_,_,_,rfl,rfl⟩
 ·injection e with e;subst e;cases h with|view _ h1 _ h3 _=>cases h3 with
   |real _ _ ha _=>subst ha;exact⟨_,_,_,rfl,rfl⟩
   |void h0 _=>omega
 ·injection e with e;subst e;cases h with|view _ h1 _ h3 h4=>cases h3 with
   |real _ _ ha _=>subst ha;exact⟨_,_,_,rfl,rfl⟩
   |void h0 _=>have:=h4 _ rfl;omega
 ·cases e
theorem Gx{g:G}{v:Value}{x:AV}{b:Bool}(h:aX g v x)(e:qy x=some b):∃a,v= .pointer a/\a.isNone=b:=by
 unfold qy at e;split at e<;>first|(injection e with e;subst e)|cases e
 ·cases h with|p h=>cases h;exact⟨_,rfl,rfl⟩
 ·cases h with|p h=>cases h;exact⟨_,rfl,rfl⟩
 ·cases h;exact⟨_,rfl,rfl⟩
theorem SN{op:BinOp}{t t':TypeId}{x y:Operand}{b:Bool}{k:AV->Prop}(ho:o.op= .binOp op t x y t')(hy:bE sl y= .p .nil)(hx:ug (bE sl x)=some b)(ht:(aH P t).isSome=true)(hk:uh k op (some b)):∃r,k r/\cP P sl o r:=by
 obtain⟨e,he⟩:=Gw ht;have run:∀(r:Bool),(∀(a:Option Addr) (n c:Nat) (w:World),a.isNone=b->(binOp op t (.slice a n c) (.slice none 0 0)).run P w= .ok (.bool r) w)->cP P sl o (.p (.bool r)):=fun r hr=>
  dx fun w0 M0 F tb g a w hw h=>by
   have h1:=h x (by simp[ho,Op.operands]);have h2:=h y (by simp[ho,Op.operands]);rw[hy]at h2;obtain⟨ad,n,c,e1,e2⟩:=Ks h1 hx;have h2:=aZ h2;generalize hv:a.eval y=v at h2;cases h2;have:=hr ad n c w e2;refine⟨.bool r,?_,.p (.sc _ rfl)⟩;simp only[execOp,ho,e1,hv,eqGuard,Sem.run_bind];cases op<;>simp[this]
 rcases hk with⟨rfl,hk⟩|⟨rfl,hk⟩
 ·exact⟨_,hk,run _ fun a n c w ha=>by rw[Lib.run_eql_slice_nil w t e a n c 0 0 he,ha]⟩
 ·exact⟨_,hk,run _ fun a n c w ha=>by rw[run_neq_slice_nil_any w t e a n c 0 0 he,ha]⟩
theorem Ow{op:BinOp}{t t':TypeId}{x y:Operand}{b:Bool}{k:AV->Prop}(ho:o.op= .binOp op t x y t')(hy:bE sl y= .p (.sc (.pointer none)))(hx:qy (bE sl x)=some b)(ht:vZ P t=true)(hk:uh k op (some b)):∃r,k r/\cP P sl o r:=by
 have he:P.underlying t=some (.pointer (P.pointee t)):=by
  unfold vZ at ht;split at ht
  ·rename_i e he;simp[Program.pointee,he]
  ·cases ht
 have run:∀(r:Bool),(∀(a:Option Addr) (w:World),a.isNone=b->(binOp op t (.pointer a) (.pointer none)).run P w= .ok (.bool r) w)->cP P sl o (.p (.bool r)):=fun r hr=>
  dx fun w0 M0 F tb g a w hw h=>by
   have h1:=h x (by simp[ho,Op.operands]);have h2:=h y (by simp[ho,Op.operands]);rw[hy]at h2;obtain⟨ad,e1,e2⟩:=Gx h1 hx;have h2:=bF h2;have:=hr ad w e2;refine⟨.bool r,?_,.p (.sc _ rfl)⟩;simp only[execOp,ho,e1,h2,eqGuard,Sem.run_bind];cases op<;>simp[this]
 rcases hk with⟨rfl,hk⟩|⟨rfl,hk⟩
 ·exact⟨_,hk,run _ fun a w ha=>by rw[run_eql_pointer_nil w t a he,ha]⟩
 ·exact⟨_,hk,run _ fun a w ha=>by rw[run_neq_pointer_nil w t a he,ha]⟩
theorem adU{op:BinOp}{t t':TypeId}{x y:Operand}{r:Bool}{xs ys:List PC}{k:AV->Prop}(ho:o.op= .binOp op t x y t')(hy:(bE sl y).nm= .p (.agg false ys))(hx:(bE sl x).nm= .p (.agg false xs))(h1:Dt P t=true)(he:eqL P xs ys (Mq P t)=some r)(hk:uh k op (some r)):∃r,k r/\cP P sl o r:=by
 have hg:P.eqGuardType P.depth t=false:=by simp only[Dt,Bool.and_eq_true,Bool.not_eq_true']at h1;exact h1.2
 have run:∀(b:Bool),(∀(us vs:Array Value) (w:World),(Op.equal t (.agg us) (.agg vs)).run P w= .ok r w->(binOp op t (.agg us) (.agg vs)).run P w= .ok (.bool b) w)->cP P sl o (.p (.bool b)):=fun b hb=>
  bH fun w0 M0 F tb g a w hw h=>by
   have g1:=h x (by simp[ho,Op.operands]);rw[hx]at g1;have g2:=h y (by simp[ho,Op.operands]);rw[hy]at g2;have g1:=aZ g1;have g2:=aZ g2;refine⟨.bool b,?_,.p (.sc _ rfl)⟩;generalize hu:a.eval x=u at g1;generalize hv:a.eval y=v at g2;cases g1 with
   |agg us _=>
    cases g2 with
    |agg vs _=>
     have key:=Q_ us vs he h1 w;have hb':=hb _ _ w key;simp only[execOp,ho,hu,hv,Sem.run_bind,run_eqGuard_agg w op t x y _ _ hg,Result.andThen_ok,hb'];simp
 rcases hk with⟨rfl,hk⟩|⟨rfl,hk⟩
 ·exact⟨_,hk,run _ fun us vs w hr=>by simp[binOp,hr]⟩
 ·exact⟨_,hk,run _ fun us vs w hr=>by simp[binOp,hr]⟩
theorem uj{k:AV->Prop}(h:Qv P o.op (bE sl) k):∃x,k x/\cP P sl o x:=by
 unfold Qv at h;split at h
 ·rename_i t ps ho;unfold sH at h;obtain⟨h1,h⟩:=h;split at h
  ·rename_i z hz;split at h
   ·rename_i zs hf;exact⟨_,h,SP ho hz h1 hf⟩
   ·exact h.elim
  ·exact h.elim
 ·rename_i t n ps ho;unfold zc at h;split at h
  ·rename_i e sz bT ht;obtain⟨h1,h2,h3,h4,h⟩:=h;split at h
   ·rename_i ys hys;obtain⟨h5,h⟩:=h;have h6:=List.all_eq_true.1 h5;have io:∀(l:List (Nat×Operand)) (k:Nat),bt k (l.map fun p=>(p.1,bE sl p.2))=bt k l:=by
     intro l;induction l with
     |nil=>intro k;rfl
     |cons p l ih=>intro k;simp[bt,ih]
    refine⟨_,h,Eh ho ht h1 (by rw[<-io];exact h2) (by simpa[dF]using h3) h4 (by rw[<-hys];simp[dF,Function.comp_def]) (fun y hy=>?_) (fun y hy b xs e=>?_)⟩
    ·have:=h6 y hy;simp at this;exact this.1
    ·have:=h6 y hy;subst e;simp[cw]at this;exact this.2
   ·exact h.elim
  ·exact h.elim
 ·rename_i x i ho;unfold Eg at h;split at h
  ·rename_i xs hx;split at h
   ·rename_i y hy;exact⟨_,h,XE ho hx hy⟩
   ·exact h.elim
  ·exact tq (P:=P) (o:=o) (by unfold opW Jo;rw[ho];exact h)
 ·rename_i t x i ho;unfold vr at h;split at h
  ·rename_i xs hx;split at h
   ·rename_i off s a hf;split at h
    ·rename_i y hy;exact⟨_,h,Ov ho hx hf hy⟩
    ·exact h.elim
   ·exact h.elim
  ·exact tq (P:=P) (o:=o) (by unfold opW Jo;rw[ho];exact h)
 ·rename_i x ho;unfold Gv at h;split at h
  ·rename_i id off hx;exact⟨_,h,XF ho hx⟩
  ·rename_i t y hx;exact⟨_,h,XG ho hx⟩
  ·exact tq (P:=P) (o:=o) (by unfold opW Jo;rw[ho];exact h)
 ·rename_i op t x y t' ho;unfold xk at h;split at h
  ·rename_i hy;obtain⟨h1,h⟩:=h;cases hn:ug (bE sl x)with
   |none=>rw[hn]at h;exact h.elim
   |some b=>rw[hn]at h;exact SN ho hy hn h1 h
  ·rename_i hy;obtain⟨h1,h⟩:=h;cases hn:qy (bE sl x)with
   |none=>rw[hn]at h;exact h.elim
   |some b=>rw[hn]at h;exact Ow ho hy hn h1 h
  ·unfold adT at h;split at h
   ·rename_i ys xs hy hx;obtain⟨h1,h⟩:=h;cases he:eqL P xs ys (Mq P t)with
    |none=>rw[he]at h;exact h.elim
    |some r=>rw[he]at h;exact adU ho hy hx h1 he h
   ·exact tq (P:=P) (o:=o) (by unfold opW Jo;rw[ho];exact h)
 ·exact tq (P:=P) (o:=o) h
end
end Go.Av
