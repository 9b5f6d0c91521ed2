/- DiskSizes, part 3: an abstract interpreter over a program's form, with the proof that it is sound; it holds for any program that the model takes. -/
import Derived.Test.YtgkdpbambfgahaaGreatDoorWab
import Derived.Laws.StructEq
import Derived.ChangeKeysEq
import Derived.Lib.SliceRun
import Derived.Laws.Pointers
import Derived.WalkSpells
set_option linter.all false
set_option maxRecDepth 100000
set_option maxHeartbeats 64000000
namespace Go.Av
open Go.RowKit
section
variable{P:Program}{st:AS}{o:Oper}
def cV(P:Program)(t:TypeId):Option (TypeId×Nat×Nat):=match P.underlying t with
 |some (.slice e)=>match P.info? e with
  |some i=>if i.zero.any (fun z=>decide (z.cells.size=i.size)&&z.cells.toList.all (·.oneCell'))then some (e,i.size,i.bytes)else none
  |none=>none
 |_=>none
structure Q7(M:Mem)(v:Value)(xs:List PC)(a:Option Addr)(cap:Nat)(us:List Value):Prop where
 hv:v= .slice a xs.length cap
 hcap:xs.length<=cap
 gG:cap<=maxLen
 nw:cP M us xs
 hone:∀u∈cellsOf us,u.oneCell'=true
 dS:∀b,a=some b->(b=⟨b.block,b.off,none⟩/\At M b.block b.off (cellsOf us))\/cap=0
 hnil:a=none->cap=0
theorem nc{M:Mem}{v:Value}{xs:List PC}(h:gB M v (.sl xs)):∃a cap us,Q7 M v xs a cap us:=by
 cases h with
 |dg=>exact⟨none,0,[],rfl,Nat.le_refl _,Nat.zero_le _,.nil,by simp[cellsOf],by simp,fun _=>rfl⟩
 |p_ a=>exact⟨some a,0,[],rfl,Nat.le_refl _,Nat.zero_le _,.nil,by simp[cellsOf],fun _ _=> .inr rfl,fun _=>rfl⟩
 |sl hn hc hm hsz hu h1 dS hs=>
  rename_i b off n cap sz us;have hl:=hs.length;obtain rfl:n=xs.length:=by omega
  exact⟨some ⟨b,off,none⟩,cap,us,rfl,hc,hm,hs,h1,fun b' e=>by injection e with e;subst e;exact .inl ⟨rfl,dS⟩,fun e=>by cases e⟩
theorem cY{M:Mem}{sz:Nat}:∀{us:List Value} {xs:List PC},cP M us xs->(∀x∈xs,x.width=sz)->∀u∈us,u.cells.size=sz
 |_,_,.nil,_,u,hu=>by cases hu
 |_,_,.cons h hs,hw,u,hu=>by
  rcases List.mem_cons.1 hu with rfl|hu
  ·rw[oX h];exact hw _ (by simp)
  ·exact cY hs (fun x hx=>hw x (by simp[hx])) u hu
theorem gE{w:World}{b:Addr}{len cap size n:Nat}{cs:List Value}(hl:cs.length=n*size)(h:∀j v,cs[j]?=some v->w.cell? (b.add j)=some v):(Builtin.firstCells size n (.slice (some b) len cap)).run P w= .ok cs.toArray w:=run_firstCells_some w size n b len cap cs hl h
theorem j7{M:Mem}{v:Value}{xs:List PC}{a:Option Addr}{cap sz:Nat}{us:List Value}(h:Q7 M v xs a cap us)(hw:∀x∈xs,x.width=sz){w:World}(hH:fT w M):(Builtin.firstCells sz xs.length v).run P w= .ok (cellsOf us).toArray w:=by
 have hl:=h.nw.length;have gR:=cN us (cY h.nw hw);rw[h.hv];cases a with
 |none=>
  have hc:=h.hnil rfl;have hx:=h.hcap;have:xs=[]:=List.eq_nil_of_length_eq_zero (by omega);subst this;have:us=[]:=List.eq_nil_of_length_eq_zero (by simpa using hl);subst this;simp[run_firstCells_none,cellsOf]
 |some b=>
  rcases h.dS b rfl with⟨e,dS⟩|hc0
  case inr=>
   have hx:=h.hcap;have Q8:us=[]:=List.eq_nil_of_length_eq_zero (by omega);have hx0:xs=[]:=List.eq_nil_of_length_eq_zero (by omega);subst Q8;subst hx0;exact gE (n:=0) (by simp[cellsOf]) fun j u hj=>by simp[cellsOf]at hj
  refine gE (by rw[gR,hl]) fun j u hj=>?_;rw[e,Addr.add_lit];exact hH _ _ _ (dS j u hj)
theorem Cv{M:Mem}{v:Value}{xs:List PC}{a:Option Addr}{cap sz:Nat}{us:List Value}{u:TypeId}(hu:(aJ P u).isSome=true)(h:Q7 M v xs a cap us)(hw:∀x∈xs,x.width=sz){w:World}(hH:fT w M):Src P u sz v xs.length (cellsOf us) w:=by
 have hl:=h.nw.length;have gR:=cN us (cY h.nw hw);refine⟨.inl ?_,?_,j7 h hw hH,j7 h hw ⟨fun b o v e=>hH b o v e,hH.g⟩,h.hone,by rw[gR,hl]⟩
 ·obtain⟨s,hs⟩:=Option.isSome_iff_exists.1 hu;unfold aJ at hs;split at hs
  ·rename_i e he;exact⟨e,he⟩
  ·cases hs
 ·rw[h.hv];rfl
theorem Gk{s:ByteArray}{u:TypeId}(hu:isStr P u=true){w:World}:Src P u 1 (.string s) (bs s).length ((bs s).map fun b=>Value.int .u8 b.toNat) w:=by
 have hf:∀w:World,(Builtin.firstCells 1 (bs s).length (.string s)).run P w= .ok ((bs s).map fun b=>Value.int .u8 b.toNat).toArray w:=fun w=>by
  simp only[Builtin.firstCells,Sem.run_pure];congr 1;rw[kE];apply Array.ext';simp[bs]
 exact⟨.inr (jW hu),by simp[Builtin.lenOf,kE],hf w,hf _,by simp[Value.oneCell'],by simp⟩
theorem cT{c:Call}{x y:Operand}{t u:TypeId}(ho:o.op= .call c)(hc:c.callee= .builtin .append)(ha:c.args=#[x,y])(ht:c.argTypes=#[t,u])(a:Act)(w:World):(execOp a.eval o).run P w=((Builtin.append_ #[t,u] o.type #[a.eval x,a.eval y]).run P w).andThen fun v w=> .ok (.value v) w:=by
 simp only[execOp,ho,resolve,hc,ha,ht,Sem.run_bind,Sem.run_pure,Result.andThen_ok,invoke,builtin,List.map_toArray,List.map_cons,List.map_nil]
theorem gP(us vs:List Value):cellsOf (us++vs)=cellsOf us++cellsOf vs:=by simp[cellsOf]
theorem fk{t e:TypeId}{sz bV:Nat}(h:cV P t=some (e,sz,bV)):P.underlying t=some (.slice e)/\∃i z,P.info? e=some i/\i.zero=some z/\i.size=sz/\i.bytes=bV/\z.cells.size=sz:=by
 unfold cV at h;split at h
 ·rename_i e' he;split at h
  ·rename_i i hi;split at h
   ·rename_i hz;injection h with h;obtain⟨rfl,rfl,rfl⟩:=by simpa using h
    cases Xq:i.zero with
    |none=>rw[Xq]at hz;simp at hz
    |some z=>rw[Xq]at hz;simp only[Option.any_some,Bool.and_eq_true,decide_eq_true_eq]at hz;exact⟨he,i,z,hi,Xq,rfl,rfl,hz.1⟩
   ·cases h
  ·cases h
 ·cases h
theorem LM{t e:TypeId}{sz bV:Nat}(h:cV P t=some (e,sz,bV)){i:TypeInfo}{z:Value}(hi:P.info? e=some i)(hz:i.zero=some z):∀v∈z.cells.toList,v.oneCell'=true:=by
 unfold cV at h;split at h
 ·split at h
  ·rename_i j hj;split at h
   ·rename_i Xq;injection h with h;obtain⟨rfl,rfl,rfl⟩:=by simpa using h
    rw[hj]at hi;injection hi with hi;subst hi;rw[hz]at Xq;simp only[Option.any_some,Bool.and_eq_true,decide_eq_true_eq]at Xq;exact fun v hv=>List.all_eq_true.1 Xq.2 v hv
   ·cases h
  ·cases h
 ·cases h
theorem ng{t u ty e:TypeId}{i:TypeInfo}(ht:P.underlying t=some (.slice e))(hi:P.info? e=some i){a:Option Addr}{n cap:Nat}{x:Value}{w:World}(hsrc:Src P u i.size x 0 [] w)(hn:n<=cap):(Builtin.append_ #[t,u] ty #[.slice a n cap,x]).run P w= .ok (.slice a n cap) w:=by
 obtain⟨hu,hlen,hcells,_,_,_⟩:=hsrc;rcases hu with⟨e',hu⟩|hu<;>cases a<;>simp[Builtin.append_,run_underlying ht,run_underlying hu,sizeOf,typeInfo,hi,hlen,hn,hcells,storeCells]
def nK(tb:Tb)(dO:Option Nat)(e:TypeId)(sz:Nat):Tb:=⟨tb.bx,(tb.nx,e,sz)::(match dO with|some id=>del id tb.rw|none=>tb.rw),tb.nx+1⟩
theorem si{w0:World}{M0:Mem}{F:Nat->Prop}{tb:Tb}{g:G}{w:World}(hw:aR w0 M0 F tb g w){t u ty e:TypeId}{sz bV:Nat}(ht:cV P t=some (e,sz,bV))(hsz:0<sz){v y:Value}{xs ys:List PC}{us':List Value}{a:Option Addr}{cap:Nat}{us:List Value}(hv:Q7 g.M v xs a cap us)(Md:∀x∈xs,x.width=sz)(Jp:∀x∈ys,x.width=sz)(hys:cP g.M us' ys)(hsrc:Src P u sz y ys.length (cellsOf us') w)(hbound:(xs.length+ys.length)*bV<=140737488355328)(gG:xs.length+ys.length<=9223372036854775807){dO:Option Nat}(hright:match dO with|none=>∃m,v= .slice a m m|some id=>lk id tb.rw=some (e,sz)/\g.rv id=some v):∃v' w' g',(Builtin.append_ #[t,u] ty #[v,y]).run P w= .ok v' w'/\g.le g'/\aR w0 M0 F (nK tb dO e sz) g' w'/\aZ g' v' (.own tb.nx (xs++ys)):=by
 have toApp:∀{g':G} {w':World},aR w0 M0 F (tb.bX e sz) g' w'->aR w0 M0 F (nK tb dO e sz) g' w':=fun h=>
  h.sub (fun _ _ e=>e) (fun i r er=>by
   simp only[nK,Tb.bX,bg]at er⊢;split at er
   ·rename_i hi;rw[if_pos hi];exact er
   ·rename_i hi;rw[if_neg hi];cases dO with
    |none=>exact er
    |some id=>simp only[cD]at er;split at er;cases er;exact er) (Nat.le_refl _)
 obtain⟨hU,i,z,hi,hz,mY,qu,hzs⟩:=fk ht;subst mY;have Ug:=hv.nw.length;have hly:=hys.length;have hcx:=cN us (cY hv.nw Md);have hcy:=cN us' (cY hys Jp);have Me:∀x∈us++us',x.cells.size=i.size:=fun x hx=>by
  rcases List.mem_append.1 hx with hx|hx
  ·exact cY hv.nw Md x hx
  ·exact cY hys Jp x hx
 have hone:∀x∈cellsOf (us++us'),x.oneCell'=true:=fun x hx=>by
  rw[gP]at hx;rcases List.mem_append.1 hx with hx|hx
  ·exact hv.hone x hx
  ·exact hsrc.one x hx
 have zq:∀{N:Mem},g.M.le N->cP N (us++us') (xs++ys):=fun h=>(hv.nw.mono h).append (hys.mono h);have aoR:(xs++ys).length=xs.length+ys.length:=List.length_append;have Mf:(cellsOf (us++us')).length=(xs.length+ys.length)*i.size:=by rw[cN _ Me];simp;rw[Ug,hly]
 have oh:=hv.hv;rcases Nat.lt_or_ge cap (xs.length+ys.length)with hgrow|hroom
 ·
  have hfit:Builtin.nextslicecap (xs.length+ys.length) cap*i.bytes<=281474976710656:=growslice_fits hgrow (by rw[qu];exact hbound);have hold:=j7 (P:=P) hv Md (w:=w.drew) ⟨fun b o v e=>hw.holds b o v e,hw.holds.g⟩;have hrun:=rC (P:=P) (ty:=ty) hU hi hz oh hold hsrc hgrow gG hfit;have hge:=grownCap_ge w (xs.length+ys.length) cap e;have Uf:=grownCap_le_maxLen w (xs.length+ys.length) cap e (by unfold maxLen;omega);generalize grownCap w (xs.length+ys.length) cap e=C at*;have vO:((cellsOf us).toArray++(cellsOf us').toArray++Builtin.zeroCells z.cells (C-(xs.length+ys.length))).size=C*i.size:=by
   simp only[Array.size_append,List.size_toArray,size_zeroCells,hcx,hcy,hzs,Ug,hly];rw[<-Nat.add_mul,<-Nat.add_mul];congr 1;omega
  have hB:Below w.drew.heap.size w.drew (w.drew.alloc (.cells ((cellsOf us).toArray++(cellsOf us').toArray++Builtin.zeroCells z.cells (C-(xs.length+ys.length))) e)):=(Below.refl _ _).alloc (Nat.le_refl _) _;obtain⟨hs,hM,dS⟩:=hw.drew.afl (el:=e) (sz:=i.size) (n:=xs.length+ys.length) (cap:=C) hB (heap_alloc_new w.drew _) vO hge Uf hsz;have rX:((cellsOf us).toArray++(cellsOf us').toArray++Builtin.zeroCells z.cells (C-(xs.length+ys.length))).toList.take ((xs.length+ys.length)*i.size)=cellsOf (us++us'):=by
   rw[<-Mf,gP];simp only[Array.toList_append,List.length_append];rw[List.take_append_of_le_length (by simp)];exact List.take_of_length_le (by simp)
  rw[rX]at hs hM dS;have hle:=hw.drew.vP (.slice (some ⟨w.heap.size,0,none⟩) (xs.length+ys.length) C);refine⟨.slice (some ⟨w.heap.size,0,none⟩) (xs.length+ys.length) C,_,(g.with (g.M.ext w.heap.size (cellsOf (us++us')))).cX tb.nx (.slice (some ⟨w.heap.size,0,none⟩) (xs.length+ys.length) C),hrun,(G.mQ hM).trans ⟨Mem.le_refl _,fun _ _ e=>e,fun j p ej=>?_⟩,toApp hs,.own (by simp[G.cX]) ?_⟩
  ·have:=hw.mh ej;simp only[G.cX];rw[if_neg (by omega)];exact ej
  ·exact .sl (sz:=i.size) (by simp;omega) (by omega) Uf hsz Me hone dS (zq hM)
 ·cases dO with
  |none=>
   obtain⟨m,Cw⟩:=hright;rw[oh]at Cw;injection Cw with _ e1 e2;have e3:xs.length=cap:=by omega
   have hy0:ys=[]:=List.eq_nil_of_length_eq_zero (by omega);subst hy0;have Q8:us'=[]:=List.eq_nil_of_length_eq_zero (by simpa using hly);subst Q8;have hrun:=ng (P:=P) (ty:=ty) (n:=xs.length) (cap:=cap) (a:=a) hU hi (by simpa[cellsOf]using hsrc) hv.hcap;rw[<-oh]at hrun;have hs:=hw.qb e i.size a cap;have hvc:v= .slice a cap cap:=by rw[oh,e3]
   rw[<-hvc]at hs;refine⟨v,w,_,hrun,hw.vP v,toApp hs,.own (by simp[G.cX]) ?_⟩
   ·rw[List.append_nil];show gB g.M v (.sl xs);rw[oh];cases a with
    |none=>
     have hx:=hv.hnil rfl;have:=hv.hcap;have:xs=[]:=List.eq_nil_of_length_eq_zero (by omega);subst this;rw[hx];exact .dg
    |some b=>
     rcases hv.dS b rfl with⟨eb,dS⟩|hc0
     case inr=>
      have:=hv.hcap;have:xs=[]:=List.eq_nil_of_length_eq_zero (by omega);subst this;rw[hc0];exact .p_ b
     rw[eb];exact .sl (sz:=i.size) (by omega) hv.hcap hv.gG hsz (cY hv.nw Md) hv.hone dS hv.nw
  |some id=>
   obtain⟨hid,Kt⟩:=hright;obtain⟨v0,f1,f2⟩:=hw.rows id e i.size hid;rw[Kt]at f1;injection f1 with f1;subst f1;rcases f2 with⟨a',m,Cw⟩|⟨b,n,cap',cur,f3,f4,⟨tt,fz,f5,fo⟩,f6,f7,f8,f9,f10,f11⟩
   ·
    rw[oh]at Cw;injection Cw with e0 e1 e2;have e3:xs.length=cap:=by omega
    have hy0:ys=[]:=List.eq_nil_of_length_eq_zero (by omega);subst hy0;have Q8:us'=[]:=List.eq_nil_of_length_eq_zero (by simpa using hly);subst Q8;have hrun:=ng (P:=P) (ty:=ty) (n:=xs.length) (cap:=cap) (a:=a) hU hi (by simpa[cellsOf]using hsrc) hv.hcap;rw[<-oh]at hrun;have hs:=hw.qb e i.size a cap;have hvc:v= .slice a cap cap:=by rw[oh,e3]
    rw[<-hvc]at hs;refine⟨v,w,_,hrun,hw.vP v,toApp hs,.own (by simp[G.cX]) ?_⟩
    ·rw[List.append_nil];show gB g.M v (.sl xs);rw[oh];cases a with
     |none=>
      have hx:=hv.hnil rfl;have:=hv.hcap;have:xs=[]:=List.eq_nil_of_length_eq_zero (by omega);subst this;rw[hx];exact .dg
     |some b=>
      rcases hv.dS b rfl with⟨eb,dS⟩|hc0
      case inr=>
       have:=hv.hcap;have:xs=[]:=List.eq_nil_of_length_eq_zero (by omega);subst this;rw[hc0];exact .p_ b
      rw[eb];exact .sl (sz:=i.size) (by omega) hv.hcap hv.gG hsz (cY hv.nw Md) hv.hone dS hv.nw
   ·
    rw[oh]at f3;injection f3 with e0 e1 e2;subst e1;subst e2;subst e0;have am6:At g.M b 0 (cellsOf us):=by
     rcases hv.dS _ rfl with⟨_,h⟩|hc0
     ·exact h
     ·have:=hv.hcap;have Q8:us=[]:=List.eq_nil_of_length_eq_zero (by omega);subst Q8;exact fun j v e=>by simp[cellsOf]at e
    have Un:cur.toList.take (xs.length*i.size)=cellsOf us:=by
     apply List.ext_getElem?;intro j;rw[List.getElem?_take];split
     ·rename_i hj;have hj':j<(cellsOf us).length:=by rw[hcx,Ug];exact hj
      have h1:=hw.holds _ _ _ (am6 j _ (List.getElem?_eq_getElem hj'));unfold World.cell? at h1;rw[f5]at h1;simp only[Option.isSome_none,Bool.false_eq_true,if_false,Nat.zero_add]at h1;rw[List.getElem?_eq_getElem hj',<-h1];simp
     ·rename_i hj
      symm;rw[List.getElem?_eq_none_iff];rw[hcx,Ug];omega
    have hfit:xs.length*i.size+(cellsOf us').length<=cur.size:=by rw[hcy,hly,<-Nat.add_mul];exact Nat.le_trans (Nat.mul_le_mul_right _ hroom) f6
    have hrun:=Aj (P:=P) (ty:=ty) hU hi (sLen:=xs.length) (sCap:=cap) f5 fo.fz hsrc hroom hfit;rw[<-oh]at hrun;generalize Mg:(cur.toList.take (xs.length*i.size)++cellsOf us'++cur.toList.drop (xs.length*i.size+(cellsOf us').length)).toArray=cur' at hrun;have hsize:cur'.size=cur.size:=by
     rw[<-Mg];simp only[List.size_toArray,List.length_append,List.length_take,List.length_drop,Array.length_toList];omega
    have hxl:(cur.toList.take (xs.length*i.size)).length=xs.length*i.size:=by rw[Un,hcx,Ug]
    have rX:cur'.toList.take ((xs.length+ys.length)*i.size)=cellsOf (us++us'):=by
     rw[<-Mf,gP,<-Mg,Un];simp only[List.length_append];rw[List.take_append_of_le_length (by simp)];exact List.take_of_length_le (by simp)
    have hsame:∀j,j<xs.length*i.size->cur'[j]?=cur[j]?:=fun j hj=>by
     rw[<-Mg,List.getElem?_toArray,List.append_assoc,List.getElem?_append_left (by rw[hxl];exact hj),List.getElem?_take,if_pos hj];simp
    rw[oh]at Kt;obtain⟨hs,hM,dS⟩:=hw.VB (n':=xs.length+ys.length) hid Kt f5 hsize hsame (by omega) hroom f7;rw[rX]at hs hM dS;refine⟨_,_,(g.with fun b' o=>if b'=b then(cellsOf (us++us'))[o]? else g.M b' o).cX tb.nx (.slice (some ⟨b,0,none⟩) (xs.length+ys.length) cap),hrun,(G.mQ hM).trans ⟨Mem.le_refl _,fun _ _ e=>e,fun j p ej=>?_⟩,hs,.own (v:= .slice (some ⟨b,0,none⟩) (xs.length+ys.length) cap) (by simp[G.cX]) ?_⟩
    ·have:=hw.mh ej;simp only[G.cX];rw[if_neg (by omega)];exact ej
    ·exact .sl (sz:=i.size) (by simp;omega) (by omega) f8 hsz Me hone dS (zq hM)
theorem sj{c:Call}{x y:Operand}{t u e:TypeId}{sz bV:Nat}{xs ys:List PC}{dO:Option Nat}(ho:o.op= .call c)(hc:c.callee= .builtin .append)(ha:c.args=#[x,y])(hts:c.argTypes=#[t,u])(ht:cV P t=some (e,sz,bV))(hsz:0<sz)(hu:(aJ P u).isSome=true)(Md:∀x∈xs,x.width=sz)(Jp:∀x∈ys,x.width=sz)(hbound:(xs.length+ys.length)*bV<=140737488355328)(gG:xs.length+ys.length<=9223372036854775807)(hy:(bH st.sl y).nm= .p (.sl ys)\/ys=[]/\(bH st.sl y).nm= .p .nil)(hx:match dO with|none=>bH st.sl x= .full xs\/xs=[]/\bH st.sl x= .p .nil|some id=>bH st.sl x= .own id xs/\lk id st.tb.rw=some (e,sz)):dx P st o (.own st.tb.nx (xs++ys)) (nK st.tb dO e sz):=bQ fun w0 M0 F g a w hw h=>by
 have h1:=h x (by rw[ho];simp[Op.operands,Call.operands,hc,ha]);have h2:=bU (h y (by rw[ho];simp[Op.operands,Call.operands,hc,ha]));have hys:gB g.M (a.eval y) (.sl ys):=by
  rcases hy with hy|⟨rfl,hy⟩
  ·rw[hy]at h2;exact bf h2
  ·rw[hy]at h2;have:=bf h2;generalize a.eval y=v at this;cases this;exact .dg
 obtain⟨a',cap',us',Xr⟩:=nc hys;have hsrc:=Cv (u:=u) hu Xr Jp hw.holds;cases dO with
 |none=>
  simp only at hx;have hxx:∃ad m,a.eval x= .slice ad m m/\gB g.M (a.eval x) (.sl xs):=by
   rcases hx with hx|⟨rfl,hx⟩
   ·rw[hx]at h1;generalize a.eval x=v at h1;cases h1 with
    |full hr=>exact⟨_,_,rfl,hr⟩
   ·rw[hx]at h1;have:=bf h1;generalize a.eval x=v at this;cases this;exact⟨none,0,rfl,.dg⟩
  obtain⟨ad,m,em,hr⟩:=hxx;obtain⟨a1,DL,us1,AX⟩:=nc hr;obtain⟨v',w',g',hrun,hle,hs,hv⟩:=si (P:=P) (ty:=o.type) hw ht hsz AX Md Jp Xr.nw hsrc hbound gG (dO:=none) ⟨m,by
   have:=AX.hv;rw[em]at this;injection this with q1 q2 q3;subst q1;exact em⟩
  exact⟨v',w',g',by rw[cT ho hc ha hts,hrun];rfl,hle,hs,hv⟩
 |some id=>
  obtain⟨hx,hid⟩:=hx;rw[hx]at h1;generalize hvx:a.eval x=v at h1;cases h1 with
  |own Kt hr=>
   obtain⟨a1,DL,us1,AX⟩:=nc hr;obtain⟨v',w',g',hrun,hle,hs,hv⟩:=si (P:=P) (ty:=o.type) hw ht hsz AX Md Jp Xr.nw hsrc hbound gG (dO:=some id) ⟨hid,Kt⟩;exact⟨v',w',g',by rw[cT ho hc ha hts,hvx,hrun];rfl,hle,hs,hv⟩
theorem zu{c:Call}{x y:Operand}{t u e:TypeId}{bV:Nat}{xs:List PC}{s:ByteArray}{dO:Option Nat}(ho:o.op= .call c)(hc:c.callee= .builtin .append)(ha:c.args=#[x,y])(hts:c.argTypes=#[t,u])(ht:cV P t=some (e,1,bV))(hu:isStr P u=true)(Md:∀x∈xs,x.width=1)(hbound:(xs.length+(bs s).length)*bV<=140737488355328)(gG:xs.length+(bs s).length<=9223372036854775807)(hy:(bH st.sl y).nm= .p (.sc (.string s)))(hx:match dO with|none=>bH st.sl x= .full xs\/xs=[]/\bH st.sl x= .p .nil|some id=>bH st.sl x= .own id xs/\lk id st.tb.rw=some (e,1)):dx P st o (.own st.tb.nx (xs++ah (bs s))) (nK st.tb dO e 1):=bQ fun w0 M0 F g a w hw h=>by
 have h1:=h x (by rw[ho];simp[Op.operands,Call.operands,hc,ha]);have h2:=bU (h y (by rw[ho];simp[Op.operands,Call.operands,hc,ha]));rw[hy]at h2;have h2:=bI h2;have Jp:∀x∈ah (bs s),x.width=1:=by simp[ah,PC.width]
 have hlen:(ah (bs s)).length=(bs s).length:=by simp[ah]
 have hsrc:=Gk (P:=P) (s:=s) (u:=u) hu (w:=w);have Uo:Src P u 1 (a.eval y) (ah (bs s)).length (cellsOf ((bs s).map fun b=>Value.int .u8 b.toNat)) w:=by
  rw[h2,hlen,gi];exact hsrc
 cases dO with
 |none=>
  simp only at hx;have hxx:∃ad m,a.eval x= .slice ad m m/\gB g.M (a.eval x) (.sl xs):=by
   rcases hx with hx|⟨rfl,hx⟩
   ·rw[hx]at h1;generalize a.eval x=v at h1;cases h1 with
    |full hr=>exact⟨_,_,rfl,hr⟩
   ·rw[hx]at h1;have:=bf h1;generalize a.eval x=v at this;cases this;exact⟨none,0,rfl,.dg⟩
  obtain⟨ad,m,em,hr⟩:=hxx;obtain⟨a1,DL,us1,AX⟩:=nc hr;obtain⟨v',w',g',hrun,hle,hs,hv⟩:=si (P:=P) (ty:=o.type) hw ht (by decide) AX Md Jp (jq g.M (bs s)) Uo (by rw[hlen];exact hbound) (by rw[hlen];exact gG) (dO:=none) ⟨m,by
   have:=AX.hv;rw[em]at this;injection this with q1 q2 q3;subst q1;exact em⟩
  exact⟨v',w',g',by rw[cT ho hc ha hts,hrun];rfl,hle,hs,hv⟩
 |some id=>
  obtain⟨hx,hid⟩:=hx;rw[hx]at h1;generalize hvx:a.eval x=v at h1;cases h1 with
  |own Kt hr=>
   obtain⟨a1,DL,us1,AX⟩:=nc hr;obtain⟨v',w',g',hrun,hle,hs,hv⟩:=si (P:=P) (ty:=o.type) hw ht (by decide) AX Md Jp (jq g.M (bs s)) Uo (by rw[hlen];exact hbound) (by rw[hlen];exact gG) (dO:=some id) ⟨hid,Kt⟩;exact⟨v',w',g',by rw[cT ho hc ha hts,hvx,hrun];rfl,hle,hs,hv⟩
end
theorem zz(zs:List Value):∀(k off:Nat) (cs:Array Value),off+k+zs.length<=cs.size->((zs.zipIdx k).foldl (fun cs (p:Value×Nat)=>cs.setIfInBounds (off+p.2) p.1) cs).toList=cs.toList.take (off+k)++zs++cs.toList.drop (off+k+zs.length):=by
 induction zs with
 |nil=>intro k off cs h;simp
 |cons z zs ih=>
  intro k off cs h;simp only[List.length_cons]at h;simp only[List.zipIdx_cons,List.foldl_cons];rw[ih (k+1) off (cs.setIfInBounds (off+k) z) (by simp;omega)];rw[Array.toList_setIfInBounds];rw[show off+(k+1)=off+k+1 by omega];rw[List.take_set,List.drop_set_of_lt (by omega)];have h1:(cs.toList.take (off+k+1)).set (off+k) z=cs.toList.take (off+k)++[z]:=by
   have:off+k<cs.toList.length:=by simp;omega
   rw[List.take_succ_eq_append_getElem this];rw[List.set_append_right _ _ (by simp;omega)];have:off+k-(cs.toList.take (off+k)).length=0:=by simp;omega
   rw[this];rfl
  rw[h1];simp only[List.append_assoc,List.cons_append,List.nil_append,List.length_cons];rw[show off+k+1+zs.length=off+k+(zs.length+1) by omega]
section
variable{P:Program}{st:AS}{o:Oper}
def aS(P:Program)(t:TypeId)(i:Nat):Option (Nat×Nat):=match P.underlying t with
 |some (.struct fs)=>match fs[i]? with
  |some f=>match aP P f.type with
   |some s=>some (f.offset,s)
   |none=>none
  |none=>none
 |some (.array _ e)=>match aP P e with
  |some s=>some (i*s,s)
  |none=>none
 |some (.slice e)=>match aP P e with
  |some s=>some (i*s,s)
  |none=>none
 |_=>none
def mK(P:Program)(t:TypeId):List AV->List (Nat×AV)->Option (List AV)
 |cs,[]=>some cs
 |cs,(i,v)::rest=>match aS P t i,v.cR with
  |some (off,s),some zs=>if zs.length=s/\off+s<=cs.length then mK P t (cs.take off++zs++cs.drop (off+s)) rest else none
  |_,_=>none
theorem yl{t:TypeId}{g:G}{place:Nat->Option (Nat×Nat)}(hp:∀i q,aS P t i=some q->place i=some q):∀(parts:List (Nat×Value)) (ps:List (Nat×AV)) (cs:Array Value) (xs zs:List AV),aL g cs.toList xs->(∀u∈cs.toList,u.oneCell'=true)->parts.map (·.1)=ps.map (·.1)->aL g (parts.map (·.2)) (ps.map (·.2))->mK P t xs ps=some zs->∃ds,Instr.fill place cs parts=some ds/\aL g ds.toList zs/\(∀u∈ds.toList,u.oneCell'=true)
 |[],[],cs,xs,zs,h1,h2,_,_,hf=>by simp only[mK,Option.some.injEq]at hf;subst hf;exact⟨cs,rfl,h1,h2⟩
 |[],_::_,_,_,_,_,_,hm,_,_=>by simp at hm
 |_::_,[],_,_,_,_,_,hm,_,_=>by simp at hm
 |(i,v)::parts,(i',x)::ps,cs,xs,zs,h1,h2,hm,hr,hf=>by
  simp only[List.map_cons,List.cons.injEq]at hm hr;obtain⟨rfl,hm⟩:=hm;cases hr with
  |cons hv hr=>
   simp only[mK]at hf;split at hf
   ·rename_i off s ys hpl hys;split at hf
    ·rename_i hc;obtain⟨Ea,Br⟩:=hc;obtain⟨q1,q2⟩:=m0 hv hys;have pR:=h1.length;have G6:=q1.length;have hvs:v.cells.size=s:=by rw[<-Ea,<-G6];simp
     have hle:off+0+v.cells.toList.length<=cs.size:=by simp at pR G6⊢;omega
     have gy:=zz v.cells.toList 0 off cs hle;simp only[Nat.add_zero]at gy;have CQ:v.cells.zipIdx.foldl (fun cs (c,j)=>cs.setIfInBounds (off+j) c) cs=(v.cells.toList.zipIdx 0).foldl (fun cs (p:Value×Nat)=>cs.setIfInBounds (off+p.2) p.1) cs:=by
      rw[<-Array.foldl_toList];simp
     generalize hd:(v.cells.toList.zipIdx 0).foldl (fun cs (p:Value×Nat)=>cs.setIfInBounds (off+p.2) p.1) cs=ds at gy CQ;have aoe:aL g ds.toList (xs.take off++ys++xs.drop (off+s)):=by
      rw[gy];have e:v.cells.toList.length=s:=by simpa using hvs
      rw[e];exact((h1.take off).append q1).append (h1.drop (off+s))
     have aof:∀u∈ds.toList,u.oneCell'=true:=fun u hu=>by
      rw[gy]at hu;simp only[List.mem_append]at hu;rcases hu with(hu|hu)|hu
      ·exact h2 u (List.mem_of_mem_take hu)
      ·exact q2 u hu
      ·exact h2 u (List.mem_of_mem_drop hu)
     obtain⟨es,e1,e2,e3⟩:=yl hp parts ps ds _ zs aoe aof hm hr hf;refine⟨es,?_,e2,e3⟩;simp only[Instr.fill,hp _ _ hpl];rw[if_neg (by simp[hvs];simp at pR;omega),CQ];exact e1
    ·cases hf
   ·cases hf
def dB(e:Operand->AV)(ps:Array (Nat×Operand)):List (Nat×AV):=ps.toList.map fun p=>(p.1,e p.2)
theorem iK{g:G}{a:Act}{sl:Nat->AV}:∀(l:List Operand),(∀y∈l,aZ g (a.eval y) (bH sl y))->aL g (l.map a.eval) (l.map (bH sl))
 |[],_=> .nil
 |y::l,h=> .cons (h y (by simp)) (iK l fun z hz=>h z (by simp[hz]))
theorem Gv{t:TypeId}{zs:List PC}(h:bJ P t=some zs):∃i z,P.info? t=some i/\i.zero=some z/\zs=z.cells.toList.map c1/\∀u∈z.cells.toList,u.oneCell'=true:=by
 unfold bJ at h;split at h
 ·rename_i z hz;split at h
  ·rename_i hall;injection h with h;cases hi:P.info? t with
   |none=>rw[hi]at hz;cases hz
   |some i=>rw[hi]at hz;exact⟨i,z,rfl,by simpa using hz,h.symm,List.all_eq_true.1 hall⟩
  ·cases h
 ·cases h
theorem run_places{fs:Array Field}{w:World}{qs:List (Nat×Nat)}(h:fs.toList.mapM (fun f=>(aP P f.type).map fun s=>(f.offset,s))=some qs):(fs.mapM fun(f:Field)=>(do pure (f.offset,<-sizeOf f.type):Sem (Nat×Nat))).run P w= .ok qs.toArray w:=by
 rw[Array.mapM_eq_mapM_toList];have:∀(l:List Field) (qs:List (Nat×Nat)),l.mapM (fun f=>(aP P f.type).map fun s=>(f.offset,s))=some qs->((l.mapM fun f=>(do pure (f.offset,<-sizeOf f.type):Sem (Nat×Nat))).run P w)= .ok qs w:=by
  intro l
  induction l with
  |nil=>intro qs h;simp at h;subst h;simp
  |cons f l ih=>
   intro qs h;simp only[List.mapM_cons]at h⊢;cases hs:aP P f.type with
   |none=>rw[hs]at h;simp at h
   |some s=>
    rw[hs]at h;cases hl:l.mapM (fun f=>(aP P f.type).map fun s=>(f.offset,s))with
    |none=>rw[hl]at h;simp at h
    |some qs'=>
     rw[hl]at h;simp at h;subst h;have:=ih qs' hl;simp only[Sem.run_bind,run_sizeOf hs,Result.andThen_ok,Sem.run_pure,this]
 rw[Sem.run_map,this _ _ h];rfl
def bu(P:Program)(t:TypeId):Bool:=match P.underlying t with
 |some (.struct fs)=>(fs.toList.mapM (fun f=>(aP P f.type).map fun s=>(f.offset,s))).isSome
 |some (.array _ e)=>(aP P e).isSome
 |_=>false
theorem Q3{t:TypeId}{ps:Array (Nat×Operand)}{z:List PC}{zs:List AV}{sl:Nat->AV}(ho:o.op= .build t ps)(hz:bJ P t=some z)(hok:bu P t=true)(hf:mK P t (z.map .p) (dB (bH sl) ps)=some zs):cO P sl o (.agg false zs):=dj fun w0 M0 F tb g a w hw h=>by
 obtain⟨i,zv,hi,yI,rfl,hone⟩:=Gv hz;have hr0:aL g zv.cells.toList ((zv.cells.toList.map c1).map .p):=ja (rG g.M _ hone);have aog:∀y∈(ps.toList.map (·.2)),aZ g (a.eval y) (bH sl y):=fun y hy=>h y (by rw[ho];simpa[Op.operands]using hy);have Zu:=iK (a:=a) (sl:=sl) (ps.toList.map (·.2)) aog;have m1:((ps.map fun(i,x)=>(i,a.eval x)).toList).map (·.1)=(dB (bH sl) ps).map (·.1):=by simp[dB]
 have m2:aL g (((ps.map fun(i,x)=>(i,a.eval x)).toList).map (·.2)) ((dB (bH sl) ps).map (·.2)):=by
  have e1:(((ps.map fun(i,x)=>(i,a.eval x)).toList).map (·.2))=(ps.toList.map (·.2)).map a.eval:=by simp
  have e2:((dB (bH sl) ps).map (·.2))=(ps.toList.map (·.2)).map (bH sl):=by simp[dB]
  rw[e1,e2];exact Zu
 unfold bu at hok;split at hok
 ·rename_i fs hU;obtain⟨qs,hqs⟩:=Option.isSome_iff_exists.1 hok;have hpl:∀i q,aS P t i=some q->qs.toArray[i]?=some q:=fun i q hq=>by
   unfold aS at hq;rw[hU]at hq;simp only at hq;split at hq
   ·rename_i f G7;split at hq
    ·rename_i s hs;injection hq with hq;subst hq;have key:∀(l:List Field) (qs:List (Nat×Nat)) (i:Nat),l.mapM (fun f=>(aP P f.type).map fun s=>(f.offset,s))=some qs->l[i]?=some f->qs[i]?=some (f.offset,s):=by
      intro l
      induction l with
      |nil=>intro qs i _ h;simp at h
      |cons f' l ih=>
       intro qs i h hi;simp only[List.mapM_cons]at h;cases hs':aP P f'.type with
       |none=>rw[hs']at h;simp at h
       |some s'=>
        rw[hs']at h;cases hl:l.mapM (fun f=>(aP P f.type).map fun s=>(f.offset,s))with
        |none=>rw[hl]at h;simp at h
        |some qs'=>
         rw[hl]at h;simp at h;subst h;cases i with
         |zero=>simp at hi;subst hi;rw[hs]at hs';injection hs' with hs';subst hs';simp
         |succ i=>simp at hi⊢;exact ih qs' i hl hi
     rw[List.getElem?_toArray];exact key fs.toList qs i hqs (by simpa using G7)
    ·cases hq
   ·cases hq
  obtain⟨ds,hd1,hd2,hd3⟩:=yl (place:=(qs.toArray[·]?)) hpl _ _ _ _ _ hr0 hone m1 m2 hf;refine⟨.agg ds,?_,by have:=aZ.agg hd2 hd3;simpa using this⟩;have hrun:=run_places (w:=w) hqs;simp only[execOp,ho,Instr.build,Sem.run_bind,zeroValue,typeInfo,run_program,hi,yI,Sem.run_pure,Result.andThen_ok,run_underlying hU,hrun,hd1]
 ·rename_i n e hU;obtain⟨s,hs⟩:=Option.isSome_iff_exists.1 hok;have hpl:∀i q,aS P t i=some q->(fun i=>some (i*s,s)) i=some q:=fun i q hq=>by
   unfold aS at hq;rw[hU]at hq;simp only[hs]at hq;exact hq
  obtain⟨ds,hd1,hd2,hd3⟩:=yl (place:=fun i=>some (i*s,s)) hpl _ _ _ _ _ hr0 hone m1 m2 hf;refine⟨.agg ds,?_,by have:=aZ.agg hd2 hd3;simpa using this⟩;simp only[execOp,ho,Instr.build,Sem.run_bind,zeroValue,typeInfo,run_program,hi,yI,Sem.run_pure,Result.andThen_ok,run_underlying hU,run_sizeOf hs,hd1]
 ·cases hok
end
theorem CP{place:Nat->Option (Nat×Nat)}{s:Nat}(hp:∀i,place i=some (i*s,s)):∀(vs:List Value) (k:Nat) (cs:Array Value),(∀v∈vs,v.cells.size=s)->cs.size=(k+vs.length)*s->∃ds,Instr.fill place cs ((vs.zipIdx k).map fun p=>(p.2,p.1))=some ds/\ds.toList=cs.toList.take (k*s)++cellsOf vs
 |[],k,cs,_,hs=>⟨cs,rfl,by simp[cellsOf];rw[List.take_of_length_le (by simp;simp at hs;omega)]⟩
 |v::vs,k,cs,hv,hs=>by
  have X1:=hv v (by simp);simp only[List.length_cons]at hs;have e1:(k+(vs.length+1))*s=k*s+s+vs.length*s:=by rw[Nat.add_mul,Nat.add_mul];omega
  have hle:k*s+0+v.cells.toList.length<=cs.size:=by simp;omega
  have gy:=zz v.cells.toList 0 (k*s) cs hle;simp only[Nat.add_zero]at gy;have CQ:v.cells.zipIdx.foldl (fun cs (c,j)=>cs.setIfInBounds (k*s+j) c) cs=(v.cells.toList.zipIdx 0).foldl (fun cs (p:Value×Nat)=>cs.setIfInBounds (k*s+p.2) p.1) cs:=by
   rw[<-Array.foldl_toList];simp
  generalize hd:(v.cells.toList.zipIdx 0).foldl (fun cs (p:Value×Nat)=>cs.setIfInBounds (k*s+p.2) p.1) cs=ds at gy CQ;have ane:ds.size=cs.size:=by
   have:=congrArg List.length gy;simp at this;omega
  obtain⟨es,f1,f2⟩:=CP hp vs (k+1) ds (fun u hu=>hv u (by simp[hu])) (by rw[ane,hs];congr 1;omega);refine⟨es,?_,?_⟩
  ·simp only[List.zipIdx_cons,List.map_cons,Instr.fill,hp];rw[if_neg (by simp[X1];omega),CQ];exact f1
  ·rw[f2,gy];have e2:(k+1)*s=k*s+s:=by rw[Nat.add_mul];omega
   have e3:v.cells.toList.length=s:=by simpa using X1
   have e4:(cs.toList.take (k*s)).length=k*s:=by simp;omega
   rw[e2,List.take_append_of_le_length (by simp;omega)];rw[List.take_of_length_le (by simp;omega)];simp[cellsOf]
section
variable{P:Program}{st:AS}{o:Oper}
def bq{α:Type}:Nat->List (Nat×α)->Bool
 |_,[]=>true
 |k,(i,_)::l=>i==k&&bq (k+1) l
theorem uM{α:Type}:∀(l:List (Nat×α)) (k:Nat),bq k l=true->l=((l.map (·.2)).zipIdx k).map fun p=>(p.2,p.1)
 |[],_,_=>rfl
 |(i,v)::l,k,h=>by
  simp only[bq,Bool.and_eq_true,beq_iff_eq]at h;obtain⟨rfl,h⟩:=h;simp only[List.map_cons,List.zipIdx_cons];rw[<-uM l (i+1) h]
theorem jc{t e:TypeId}{sz bV n:Nat}{ps:List (Nat×Value)}{w:World}(ht:cV P t=some (e,sz,bV))(Ol:bq 0 ps=true)(hn:ps.length=n)(mV:n*sz<=16777216)(hsz:0<sz)(hv:∀v∈ps.map (·.2),v.cells.size=sz):(Instr.buildSlice t n ps.toArray).run P w= .ok (.slice (some ⟨w.heap.size,0,none⟩) n n) (w.alloc (.cells (cellsOf (ps.map (·.2))).toArray e)):=by
 obtain⟨hU,i,z,hi,hz,mY,qu,hzs⟩:=fk ht;subst mY;have ahT:¬(16777216<n*i.size):=by omega
 obtain⟨ds,f1,f2⟩:=CP (place:=fun k=>some (k*i.size,i.size)) (fun _=>rfl) (ps.map (·.2)) 0 ((Array.range (n*i.size)).map (z.cells[·%z.cells.size]!)) hv (by simp[hn]);rw[<-uM ps 0 Ol]at f1;have hds:ds=(cellsOf (ps.map (·.2))).toArray:=by
  apply Array.ext';rw[f2];simp
 subst hds;by_cases h0:n*i.size=0
 ·have hn0:n=0:=by
   rcases Nat.mul_eq_zero.1 h0 with h|h
   ·exact h
   ·omega
  subst hn0;have:ps=[]:=List.eq_nil_of_length_eq_zero hn;subst this;simp[Instr.buildSlice,run_underlying hU,sizeOf,typeInfo,hi,Instr.fill,newRow,cellsOf];congr 2;apply Array.ext';simp
 ·have hz':(0<n/\0<i.size):=⟨by rcases Nat.eq_zero_or_pos n with h|h;(subst h;simp at h0);exact h,hsz⟩;simp only[Instr.buildSlice,Sem.run_bind,run_underlying hU,Result.andThen_ok,sizeOf,typeInfo,run_program,hi,Sem.run_pure,zeroValue,hz,if_neg h0,if_neg ahT,f1,newRow,run_newObj_alloc]
theorem CR:∀(l:List AV) (ys:List PC),dR l=some ys->ys.length=l.length
 |[],ys,h=>by simp[dR]at h;subst h;rfl
 |x::l,ys,h=>by
  cases x<;>simp only[dR]at h<;>try cases h
  split at h
  ·rename_i r hr;injection h with h;subst h;simp[CR l r hr]
  ·cases h
theorem Cu{t e:TypeId}{sz bV n:Nat}{ps:Array (Nat×Operand)}{ys:List PC}{sl:Nat->AV}(ho:o.op= .buildSlice t n ps)(ht:cV P t=some (e,sz,bV))(hsz:0<sz)(Ol:bq 0 ps.toList=true)(hn:ps.size=n)(mV:n*sz<=16777216)(hys:dR (ps.toList.map fun p=>(bH sl p.2).nm)=some ys)(hw':∀y∈ys,y.width=sz)(h1:∀y∈ys,∀b xs,y= .agg b xs->b=false):cO P sl o (.full ys):=Ai fun w0 M0 F tb g a w hw h=>by
 have hr:=kJ (g:=g) (a:=a) (ps.toList.map (·.2)) ys (fun y hy=>h y (by rw[ho];simpa[Op.operands]using hy)) (by rw[List.map_map];exact hys);have iE:=cY hr hw';have oJ:(((ps.map fun(i,x)=>(i,a.eval x)).toList).map (·.2))=(ps.toList.map (·.2)).map a.eval:=by simp
 have Ey:bq 0 ((ps.map fun(i,x)=>(i,a.eval x)).toList)=true:=by
  have key:∀(l:List (Nat×Operand)) (k:Nat),bq k l=true->bq k (l.map fun p=>(p.1,a.eval p.2))=true:=by
   intro l
   induction l with
   |nil=>intro k _;rfl
   |cons p l ih=>intro k hk;simp only[bq,Bool.and_eq_true,List.map_cons]at hk⊢;exact⟨hk.1,ih _ hk.2⟩
  have:=key ps.toList 0 Ol;simpa using this
 have hrun:=jc (P:=P) (w:=w) (n:=n) ht Ey (by simp[hn]) mV hsz (by rw[oJ];exact iE);rw[oJ]at hrun;have hone:∀u∈cellsOf ((ps.toList.map (·.2)).map a.eval),u.oneCell'=true:=by
  have key:∀{us:List Value} {ys:List PC},cP g.M us ys->(∀y∈ys,∀b xs,y= .agg b xs->b=false)->∀u∈cellsOf us,u.oneCell'=true:=by
   intro us ys hr
   induction us generalizing ys with
   |nil=>intro _ u hu;simp[cellsOf]at hu
   |cons v us ih=>
    intro hb u hu;cases hr with
    |cons hv hr=>
     rename_i y ys;simp only[cellsOf,List.flatMap_cons,List.mem_append]at hu;rcases hu with hu|hu
     ·have hby:=hb y (by simp);by_cases hp:y.plain=true
      ·obtain⟨e1,e2⟩:=gT hv hp;rw[e1]at hu;simp at hu;subst hu;exact e2
      ·cases y with
       |agg b xs=>
        have:=hby b xs rfl;subst this;cases hv with
        |agg hs h1=>exact h1 u (by simpa[Value.cells]using hu)
       |_=>simp[PC.plain]at hp
     ·exact ih hr (fun y hy=>hb y (by simp[hy])) u hu
  exact key hr h1
 obtain⟨e1,e2,e3,e4,e5⟩:=Ah hw (cellsOf ((ps.toList.map (·.2)).map a.eval)) e (0,0);have hlen:ys.length=n:=by have:=CR _ _ hys;simpa[hn]using this
 refine⟨.slice (some ⟨w.heap.size,0,none⟩) n n,_,_,?_,e1,e2,e3,e4,.full (.sl (sz:=sz) (by have:=hr.length;omega) (Nat.le_refl _) ?_ hsz iE hone e5 (hr.mono e1))⟩
 ·have Ez:ps.map (fun(p:Nat×Operand)=>(p.1,a.eval p.2))=((ps.map fun(i,x)=>(i,a.eval x)).toList).toArray:=by apply Array.ext';simp
  simp only[execOp,ho,Sem.run_bind];have xG:(Instr.buildSlice t n (ps.map fun(x:Nat×Operand)=>(x.1,a.eval x.2))).run P w= .ok (.slice (some ⟨w.heap.size,0,none⟩) n n) (w.alloc (.cells (cellsOf ((ps.toList.map (·.2)).map a.eval)).toArray e)):=by rw[Ez];exact hrun
  rw[xG];rfl
 ·have:n*1<=n*sz:=Nat.mul_le_mul_left _ hsz;unfold maxLen;omega
end
def AV.cH(ρ:Nat->Nat):AV->AV
 | .obj id off=> .obj (ρ id) off
 | .own id xs=> .own (ρ id) xs
 | .agg t xs=> .agg t (dA xs)
 | .jZ f xs=> .jZ f (dA xs)
 | .kG f xs=> .kG f (dA xs)
 | .kV t x=> .kV t (x.cH ρ)
 | .p x=> .p x
 | .full xs=> .full xs
 | .nn xs=> .nn xs
 | .view id o n s c=> .view (ρ id) o n s c
 | .any=> .any
where dA:List AV->List AV
 |[]=>[]
 |x::l=>x.cH ρ::dA l
def AV.e_(m:Nat):AV->Bool
 | .obj id _=>decide (id<m)
 | .own id _=>decide (id<m)
 | .view id _ _ _ _=>decide (id<m)
 | .agg _ xs=>eE xs
 | .jZ _ xs=>eE xs
 | .kG _ xs=>eE xs
 | .kV _ x=>x.e_ m
 |_=>true
where eE:List AV->Bool
 |[]=>true
 |x::l=>x.e_ m&&eE l
def G.cH(g:G)(ρ:Nat->Nat)(m:Nat):G:=⟨g.M,fun i=>if i<m then g.ob (ρ i)else none,fun i=>if i<m then g.rv (ρ i)else none⟩
mutual
theorem yd{g:G}{ρ:Nat->Nat}{m:Nat}:∀{v:Value} (x:AV),aZ g v (x.cH ρ)->x.e_ m=true->aZ (g.cH ρ m) v x
 |v,.p y,h,_=>by simp only[AV.cH]at h;cases h with|p h1=>exact .p h1
 |v,.obj id off,h,hl=>by
  simp only[AV.cH]at h;simp only[AV.e_,decide_eq_true_eq]at hl;cases h with|obj e=>exact .obj (by simp only[G.cH];rw[if_pos hl];exact e)
 |v,.own id xs,h,hl=>by
  simp only[AV.cH]at h;simp only[AV.e_,decide_eq_true_eq]at hl;cases h with|own e hr=>exact .own (by simp only[G.cH];rw[if_pos hl];exact e) hr
 |v,.full xs,h,_=>by simp only[AV.cH]at h;cases h with|full hr=>exact .full hr
 |v,.nn xs,h,_=>by simp only[AV.cH]at h;cases h with|nn hr=>exact .nn hr
 |v,.view id o n s c,h,hl=>by
  simp only[AV.cH]at h;simp only[AV.e_,decide_eq_true_eq]at hl;cases h with|view e h1 h2 h3 h4=>exact .view (by simp only[G.cH];rw[if_pos hl];exact e) h1 h2 h3 h4
 |v,.agg t xs,h,hl=>by
  simp only[AV.cH]at h;simp only[AV.e_]at hl;cases h with
  |agg hs h1=>exact .agg (fh xs hs hl) h1
  |o4 hs=>exact .o4 (fh xs hs hl)
 |v,.jZ f xs,h,hl=>by
  simp only[AV.cH]at h;simp only[AV.e_]at hl;cases h with
  |jZ hs=>exact .jZ (fh xs hs hl)
 |v,.kG f xs,h,hl=>by
  simp only[AV.cH]at h;simp only[AV.e_]at hl;cases h with
  |kG hs=>exact .kG (fh xs hs hl)
 |v,.kV t x,h,hl=>by
  simp only[AV.cH]at h;simp only[AV.e_]at hl;cases h with
  |kV h1=>exact .kV (yd x h1 hl)
 |v,.any,_,_=> .any v
theorem fh{g:G}{ρ:Nat->Nat}{m:Nat}:∀{vs:List Value} (xs:List AV),aL g vs (AV.cH.dA ρ xs)->AV.e_.eE m xs=true->aL (g.cH ρ m) vs xs
 |_,[],h,_=>by simp only[AV.cH.dA]at h;cases h;exact .nil
 |_,x::xs,h,hl=>by
  simp only[AV.cH.dA]at h;simp only[AV.e_.eE,Bool.and_eq_true]at hl;cases h with|cons h1 hs=>exact .cons (yd x h1 hl.1) (fh xs hs hl.2)
end
theorem fJ{ρ:Nat->Nat}:∀(xs:List AV),(AV.cH.dA ρ xs).length=xs.length
 |[]=>rfl
 |_::l=>by simp[AV.cH.dA,fJ l]
section
variable{w0:World}{M0:Mem}{F:Nat->Prop}{tb:Tb}{g:G}{w:World}
def MK:Option Ob->Ob->Prop
 |some p,o=>p.el=o.el/\p.sz=o.sz/\o.xs<+:p.xs
 |none,_=>False
def nX(ρ:Nat->Nat)(m:Nat)(bx:List (Nat×Ob)):List (Nat×Ob)->Prop
 |[]=>True
 |(i,o)::l=>i<m/\AV.e_.eE m o.xs=true/\MK (lk (ρ i) bx) {o with xs:=AV.cH.dA ρ o.xs}/\nX ρ m bx l
def CL(ρ:Nat->Nat)(m:Nat)(rw:List (Nat×TypeId×Nat)):List (Nat×TypeId×Nat)->Prop
 |[]=>True
 |(i,r)::l=>i<m/\lk (ρ i) rw=some r/\CL ρ m rw l
def jy{α:Type}(ρ:Nat->Nat):List (Nat×α)->Prop
 |[]=>True
 |(i,_)::l=>sy i l/\jy ρ l
where sy (i:Nat):List (Nat×α)->Prop
 |[]=>True
 |(j,_)::l=>(i=j\/ρ i≠ρ j)/\sy i l
theorem sH{ρ:Nat->Nat}{m:Nat}{bx:List (Nat×Ob)}{i:Nat}{o:Ob}:∀(l:List (Nat×Ob)),nX ρ m bx l->lk i l=some o->i<m/\AV.e_.eE m o.xs=true/\∃p,lk (ρ i) bx=some p/\p.el=o.el/\p.sz=o.sz/\AV.cH.dA ρ o.xs<+:p.xs
 |[],_,h=>by simp[lk]at h
 |(j,p)::l,hr,h=>by
  simp only[lk]at h;split at h
  ·rename_i e;subst e;injection h with h;subst h;have h3:=hr.2.2.1;cases hp:lk (ρ i) bx with
   |none=>rw[hp]at h3;exact h3.elim
   |some p=>rw[hp]at h3;exact⟨hr.1,hr.2.1,p,rfl,h3.1,h3.2.1,h3.2.2⟩
  ·exact sH l hr.2.2.2 h
theorem sI{ρ:Nat->Nat}{m:Nat}{rw:List (Nat×TypeId×Nat)}{i:Nat}{r:TypeId×Nat}:∀(l:List (Nat×TypeId×Nat)),CL ρ m rw l->lk i l=some r->i<m/\lk (ρ i) rw=some r
 |[],_,h=>by simp[lk]at h
 |(j,p)::l,hr,h=>by
  simp only[lk]at h;split at h
  ·rename_i e;subst e;injection h with h;subst h;exact⟨hr.1,hr.2.1⟩
  ·exact sI l hr.2.2 h
theorem ye{α:Type}{ρ:Nat->Nat}{i j:Nat}{o:α}:∀(l:List (Nat×α)),jy.sy ρ i l->lk j l=some o->i=j\/ρ i≠ρ j
 |[],_,h=>by simp[lk]at h
 |(k,p)::l,hr,h=>by
  simp only[lk]at h;split at h
  ·rename_i e;subst e;exact hr.1
  ·exact ye l hr.2 h
theorem Be{α:Type}{ρ:Nat->Nat}{i j:Nat}{o p:α}:∀(l:List (Nat×α)),jy ρ l->lk i l=some o->lk j l=some p->i≠j->ρ i≠ρ j
 |[],_,h,_,_=>by simp[lk]at h
 |(k,q)::l,hr,h1,h2,hij=>by
  simp only[lk]at h1 h2;split at h1
  ·rename_i e;subst e;rw[if_neg (fun h=>hij h.symm)]at h2;exact(ye l hr.1 h2).resolve_left hij
  ·split at h2
   ·rename_i e;subst e;exact fun h=>((ye l hr.1 h1).resolve_left fun h=>hij h.symm) h.symm
   ·exact Be l hr.2 h1 h2 hij
theorem aR.cH(h:aR w0 M0 F tb g w){ρ:Nat->Nat}{aO:Tb}(hb:nX ρ aO.nx tb.bx aO.bx)(hr:CL ρ aO.nx tb.rw aO.rw)(ib:jy ρ aO.bx)(ir:jy ρ aO.rw):aR w0 M0 F aO (g.cH ρ aO.nx) w:=by
 have Nx:∀i p,(g.cH ρ aO.nx).ob i=some p->g.ob (ρ i)=some p:=fun i p e=>by
  simp only[G.cH]at e;split at e
  ·exact e
  ·cases e
 have Ny:∀i p,(g.cH ρ aO.nx).rv i=some p->g.rv (ρ i)=some p:=fun i p e=>by
  simp only[G.cH]at e;split at e
  ·exact e
  ·cases e
 refine⟨h.holds,h.keep,h.old,h.BD,fun i o e=>?_,fun i el sz e=>?_,fun i j o p b c b' c' ei ej hij e1 e2 p1 p2=>?_,fun i j r s u v b ei ej hij e1 e2 e3=>?_,fun i j o r b c v ei ej e1 e2 p1=>?_,fun i hi=>?_⟩
 ·obtain⟨h1,h2,p,h3,q1,q2,q3⟩:=sH _ hb e;obtain⟨b,c,f1,fr,f0⟩:=h.boxes _ _ h3;have hlen:=q3.length_le;simp only[fJ]at hlen;refine⟨b,c,by simp only[G.cH];rw[if_pos h1];exact f1,fun hp=>?_,fun hz=>?_⟩
  ·obtain⟨cur,f2,f3,f4,f5,f6,f7,f8,f9⟩:=fr hp;refine⟨cur,f2,f3,by rw[<-q1];exact f4,by rw[<-q2];exact f5,f6,by omega,fh _ ?_ h2,f9⟩;have e1:(p.xs.take o.xs.length)=AV.cH.dA ρ o.xs:=by
    obtain⟨t,ht⟩:=q3;rw[<-ht,List.take_append_of_le_length (by simp[fJ]),List.take_of_length_le (by simp[fJ])]
   have:=f8.take o.xs.length;rw[List.take_take,Nat.min_eq_left hlen,e1]at this;exact this
  ·rw[f0 hz]at hlen;exact List.eq_nil_of_length_eq_zero (by simpa using hlen)
 ·obtain⟨h1,h2⟩:=sI _ hr e;obtain⟨v,f1,f2⟩:=h.rows _ _ _ h2;exact⟨v,by simp only[G.cH];rw[if_pos h1];exact f1,f2⟩
 ·obtain⟨_,_,_,h3,_⟩:=sH _ hb ei;obtain⟨_,_,_,h4,_⟩:=sH _ hb ej;exact h.fG _ _ _ _ b c b' c' h3 h4 (Be _ ib ei ej hij) (Nx _ _ e1) (Nx _ _ e2) p1 p2
 ·obtain⟨_,h3⟩:=sI _ hr ei;obtain⟨_,h4⟩:=sI _ hr ej;exact h.gJ _ _ _ _ u v b h3 h4 (Be _ ir ei ej hij) (Ny _ _ e1) (Ny _ _ e2) e3
 ·obtain⟨_,_,_,h3,_⟩:=sH _ hb ei;obtain⟨_,h4⟩:=sI _ hr ej;exact h.eX _ _ _ _ b c v h3 h4 (Nx _ _ e1) (Ny _ _ e2) p1
 ·simp only[G.cH];rw[if_neg (by omega),if_neg (by omega)];exact⟨rfl,rfl⟩
theorem G.jt{g0 g:G}{ρ:Nat->Nat}{m eW:Nat}(h:g0.le g)(h0:∀i,eW<=i->g0.ob i=none/\g0.rv i=none)(hm:eW<=m)(hρ:∀i,i<eW->ρ i=i):g0.le (g.cH ρ m):=by
 refine⟨h.M,fun i p e=>?_,fun i v e=>?_⟩
 ·have hi:i<eW:=Nat.lt_of_not_le fun hle=>by rw[(h0 i hle).1]at e;cases e
  simp only[G.cH];rw[if_pos (by omega),hρ i hi];exact h.ob _ _ e
 ·have hi:i<eW:=Nat.lt_of_not_le fun hle=>by rw[(h0 i hle).2]at e;cases e
  simp only[G.cH];rw[if_pos (by omega),hρ i hi];exact h.rv _ _ e
def ay{α:Type}(bx:List (Nat×α)):List (Nat×α)->Prop
 |[]=>True
 |(i,o)::l=>lk i bx=some o/\ay bx l
theorem eP{α:Type}{bx:List (Nat×α)}{i:Nat}{o:α}:∀(l:List (Nat×α)),ay bx l->lk i l=some o->lk i bx=some o
 |[],_,h=>by simp[lk]at h
 |(j,p)::l,hr,h=>by
  simp only[lk]at h;split at h
  ·rename_i e;subst e;injection h with h;subst h;exact hr.1
  ·exact eP l hr.2 h
def cu{α:Type}:List (Nat×α)->List (Nat×α)->List (Nat×α)
 |[],l=>l
 |(i,_)::s,l=>del i (cu s l)
theorem mM{α:Type}{i:Nat}{o:α}:∀(s l:List (Nat×α)),lk i (cu s l)=some o->lk i s=none/\lk i l=some o
 |[],l,h=>⟨rfl,h⟩
 |(j,p)::s,l,h=>by
  simp only[cu,cD]at h;split at h
  ·cases h
  ·rename_i hne;obtain⟨h1,h2⟩:=mM s l h;exact⟨by simp only[lk];rw[if_neg hne];exact h1,h2⟩
theorem gX{α:Type}{i:Nat}{o:α}:∀(s l:List (Nat×α)),lk i (s++l)=some o->lk i s=some o\/lk i l=some o
 |[],l,h=> .inr h
 |(j,p)::s,l,h=>by
  simp only[List.cons_append,lk]at h⊢;split at h
  ·rename_i e;rw[if_pos e];exact .inl h
  ·rename_i e;rw[if_neg e];exact gX s l h
def Tb.merge(tb ts ts':Tb):Tb:=⟨ts'.bx++cu ts.bx tb.bx,ts'.rw++cu ts.rw tb.rw,ts'.nx⟩
def Es(g:G)(ts:Tb):Nat->Prop:=fun b=>(∃id o c,lk id ts.bx=some o/\g.ob id=some (b,c)/\0<c)\/∃id r v,lk id ts.rw=some r/\g.rv id=some v/\dQ v=some b
theorem aR.part(h:aR w0 M0 F tb g w){ts:Tb}(hb:ay tb.bx ts.bx)(hr:ay tb.rw ts.rw)(hn:ts.nx=tb.nx):aR w g.M (Es g ts) ts g w:=by
 refine⟨h.holds,qn.refl _ _,fun _ _ _=>rfl,Mem.le_refl _,fun i o e=>?_,fun i el sz e=>?_,fun i j o p b c b' c' ei ej hij e1 e2 p1 p2=>?_,fun i j r s u v b ei ej hij e1 e2 e3=>?_,fun i j o r b c v ei ej e1 e2 p1=>?_,fun i hi=>h.fresh i (by omega)⟩
 ·obtain⟨b,c,f1,fr,f0⟩:=h.boxes _ _ (eP _ hb e);refine⟨b,c,f1,fun hp=>?_,f0⟩;obtain⟨cur,f2,f3,f4,f5,f6,f7,f8,f9⟩:=fr hp;exact⟨cur,.inr (.inl ⟨i,o,c,e,f1,hp⟩),f3,f4,f5,f6,f7,f8,f9⟩
 ·obtain⟨v,f1,f2⟩:=h.rows _ _ _ (eP _ hr e);refine⟨v,f1,f2.imp (fun h=>h) ?_⟩;rintro⟨b,n,cap,cur,h3,h4,h5,h6,h7,h8,h9,h10,h11⟩;exact⟨b,n,cap,cur,h3,.inr (.inr ⟨i,_,v,e,f1,by subst h3;exact cZ h7⟩),h5,h6,h7,h8,h9,h10,h11⟩
 ·exact h.fG i j o p b c b' c' (eP _ hb ei) (eP _ hb ej) hij e1 e2 p1 p2
 ·exact h.gJ i j r s u v b (eP _ hr ei) (eP _ hr ej) hij e1 e2 e3
 ·exact h.eX i j o r b c v (eP _ hb ei) (eP _ hr ej) e1 e2 p1
theorem aR.back(h:aR w0 M0 F tb g w){ts ts':Tb}{g':G}{w':World}(hb:ay tb.bx ts.bx)(hr:ay tb.rw ts.rw)(hle:g.le g')(k:aR w g.M (Es g ts) ts' g' w'):aR w0 M0 F (tb.merge ts ts') g' w':=by
 have hF:∀b,Es g ts b->w0.heap.size<=b\/F b:=fun b hf=>by
  rcases hf with⟨id,o,c,e,e1,hp⟩|⟨id,r,v,e,e1,e2⟩
  ·obtain⟨cur,f2,_⟩:=(h.boxes _ _ (eP _ hb e)).real e1 hp;exact f2
  ·obtain⟨v',f1,f2⟩:=h.rows _ r.1 r.2 (eP _ hr e);rw[e1]at f1;injection f1 with f1;subst f1;rcases f2 with⟨a,n,rfl⟩|⟨b',n,cap,cur,rfl,f3,f4,f5,f6,_⟩
   ·rw[f_]at e2;cases e2
   ·rw[cZ f6]at e2;injection e2 with e2;subst e2;exact f3
 have yY:∀i o b c,lk i (cu ts.bx tb.bx)=some o->g'.ob i=some (b,c)->0<c->lk i tb.bx=some o/\g.ob i=some (b,c)/\b<w.heap.size/\¬Es g ts b:=fun i o b c e e1 hp=>by
  obtain⟨d1,d2⟩:=mM _ _ e;obtain⟨b',c',f1,fr,_⟩:=h.boxes _ _ d2;have:=hle.ob _ _ f1;rw[e1]at this;injection this with this;injection this with t1 t2;subst t1;subst t2;obtain⟨cur,f2,f3,⟨tt,fz,f4,fo⟩,_⟩:=fr hp;refine⟨d2,f1,o3 f4,?_⟩;rintro(⟨j,p,c',ej,e2,hp'⟩|⟨j,r,v,ej,e2,e3⟩)
  ·exact h.fG i j _ _ b c b c' d2 (eP _ hb ej) (fun hij=>by subst hij;rw[d1]at ej;cases ej) f1 e2 hp hp' rfl
  ·exact h.eX i j _ _ b c v d2 (eP _ hr ej) f1 e2 hp e3
 have hrw:∀i r v,lk i (cu ts.rw tb.rw)=some r->g'.rv i=some v->lk i tb.rw=some r/\g.rv i=some v/\∀b,dQ v=some b->b<w.heap.size/\¬Es g ts b:=fun i r v e e1=>by
  obtain⟨d1,d2⟩:=mM _ _ e;obtain⟨v',f1,_⟩:=h.rows _ r.1 r.2 d2;have:=hle.rv _ _ f1;rw[e1]at this;injection this with this;subst this;refine⟨d2,f1,fun b hv=>⟨h.Ft d2 f1 hv,?_⟩⟩;rintro(⟨j,p,c',ej,e2,hp'⟩|⟨j,s,u,ej,e2,e3⟩)
  ·exact h.eX j i _ _ b c' v (eP _ hb ej) d2 e2 f1 hp' hv
  ·exact h.gJ i j _ _ v u b d2 (eP _ hr ej) (fun hij=>by subst hij;rw[d1]at ej;cases ej) f1 e2 hv e3
 have kbx:∀i o b c,lk i ts'.bx=some o->g'.ob i=some (b,c)->0<c->w.heap.size<=b\/Es g ts b:=fun i o b c e e1 hp=>by
  obtain⟨cur,f2,_⟩:=(k.boxes _ _ e).real e1 hp;exact f2
 have krw:∀i r v b,lk i ts'.rw=some r->g'.rv i=some v->dQ v=some b->w.heap.size<=b\/Es g ts b:=fun i r v b e e1 e2=>by
  obtain⟨v',f1,f2⟩:=k.rows _ r.1 r.2 e;rw[e1]at f1;injection f1 with f1;subst f1;rcases f2 with⟨a,n,rfl⟩|⟨b',n,cap,cur,rfl,f3,f4,f5,f6,_⟩
  ·rw[f_]at e2;cases e2
  ·rw[cZ f6]at e2;injection e2 with e2;subst e2;exact f3
 have hsz:=h.keep.size;have up:∀b,(w.heap.size<=b\/Es g ts b)->w0.heap.size<=b\/F b:=fun b hb=>hb.elim (fun hb=> .inl (by omega)) (hF b);have apart:∀b b',b<w.heap.size/\¬Es g ts b->(w.heap.size<=b'\/Es g ts b')->b≠b':=fun b b' h1 h2 e=>by
  subst e;rcases h2 with h2|h2
  ·omega
  ·exact h1.2 h2
 refine⟨k.holds,h.keep.trans k.keep fun b hb hf=>?_,fun b hb hf=>?_,h.BD.trans hle.M,fun i o e=>?_,fun i el sz e=>?_,fun i j o p b c b' c' ei ej hij e1 e2 p1 p2=>?_,fun i j r s u v b ei ej hij e1 e2 e3=>?_,fun i j o r b c v ei ej e1 e2 p1=>?_,k.fresh⟩
 ·rcases hF b hf with hf|hf
  ·omega
  ·exact hf
 ·rw[k.old b (by omega) (fun hf'=>by rcases hF b hf' with h1|h1;omega;exact hf h1)];exact h.old b hb hf
 ·simp only[Tb.merge]at e;rcases gX _ _ e with e|e
  ·obtain⟨b,c,f1,fr,f0⟩:=k.boxes _ _ e;refine⟨b,c,f1,fun hp=>?_,f0⟩;obtain⟨cur,f2,f3⟩:=fr hp;exact⟨cur,up b f2,f3⟩
  ·obtain⟨d1,d2⟩:=mM _ _ e;obtain⟨b,c,f1,fr,f0⟩:=h.boxes _ _ d2;refine⟨b,c,hle.ob _ _ f1,fun hp=>?_,f0⟩;obtain⟨cur,f2,f3,⟨tt,fz,f4,fo⟩,f5,f6,f7,f8,f9⟩:=fr hp;obtain⟨_,_,h3,h4⟩:=yY i o b c e (hle.ob _ _ f1) hp;exact⟨cur,f2,fun off=>by rw[k.old b h3 h4];exact f3 off,⟨tt,fz,(k.keep.block b h3 h4).trans f4,fo⟩,f5,f6,f7,f8.mono hle,f9⟩
 ·simp only[Tb.merge]at e;rcases gX _ _ e with e|e
  ·obtain⟨v,f1,f2⟩:=k.rows _ _ _ e;refine⟨v,f1,f2.imp (fun h=>h) ?_⟩;rintro⟨b,n,cap,cur,h3,h4,h5⟩;exact⟨b,n,cap,cur,h3,up b h4,h5⟩
  ·obtain⟨d1,d2⟩:=mM _ _ e;obtain⟨v,f1,f2⟩:=h.rows _ _ _ d2;obtain⟨_,_,h3⟩:=hrw i _ v e (hle.rv _ _ f1);refine⟨v,hle.rv _ _ f1,f2.imp (fun h=>h) ?_⟩;rintro⟨b,n,cap,cur,g3,g4,⟨tt,fz,g5,fo⟩,g6,g7,g8,g9,g10,g11⟩;obtain⟨q1,q2⟩:=h3 b (by subst g3;exact cZ g7);exact⟨b,n,cap,cur,g3,g4,⟨tt,fz,(k.keep.block b q1 q2).trans g5,fo⟩,g6,g7,g8,g9,g10.mono hle.M,fun o v e=>g11 o v (by rw[<-k.old b q1 q2];exact e)⟩
 ·simp only[Tb.merge]at ei ej;rcases gX _ _ ei with ei|ei<;>rcases gX _ _ ej with ej|ej
  ·exact k.fG i j o p b c b' c' ei ej hij e1 e2 p1 p2
  ·obtain⟨_,_,h3,h4⟩:=yY j p b' c' ej e2 p2;exact fun h=>apart b' b ⟨h3,h4⟩ (kbx i o b c ei e1 p1) h.symm
  ·obtain⟨_,_,h3,h4⟩:=yY i o b c ei e1 p1;exact apart b b' ⟨h3,h4⟩ (kbx j p b' c' ej e2 p2)
  ·obtain⟨q1,q2,_⟩:=yY i o b c ei e1 p1;obtain⟨q3,q4,_⟩:=yY j p b' c' ej e2 p2;exact h.fG i j o p b c b' c' q1 q3 hij q2 q4 p1 p2
 ·simp only[Tb.merge]at ei ej;rcases gX _ _ ei with ei|ei<;>rcases gX _ _ ej with ej|ej
  ·exact k.gJ i j r s u v b ei ej hij e1 e2 e3
  ·obtain⟨_,_,h3⟩:=hrw j s v ej e2;exact fun hv=>apart b b (h3 b hv) (krw i r u b ei e1 e3) rfl
  ·obtain⟨_,_,h3⟩:=hrw i r u ei e1;exact fun hv=>apart b b (h3 b e3) (krw j s v b ej e2 hv) rfl
  ·obtain⟨q1,q2,_⟩:=hrw i r u ei e1;obtain⟨q3,q4,_⟩:=hrw j s v ej e2;exact h.gJ i j r s u v b q1 q3 hij q2 q4 e3
 ·simp only[Tb.merge]at ei ej;rcases gX _ _ ei with ei|ei<;>rcases gX _ _ ej with ej|ej
  ·exact k.eX i j o r b c v ei ej e1 e2 p1
  ·obtain⟨_,_,h3⟩:=hrw j r v ej e2;exact fun hv=>apart b b (h3 b hv) (kbx i o b c ei e1 p1) rfl
  ·obtain⟨_,_,h3,h4⟩:=yY i o b c ei e1 p1;exact fun hv=>apart b b ⟨h3,h4⟩ (krw j r v b ej e2 hv) rfl
  ·obtain⟨q1,q2,_⟩:=yY i o b c ei e1 p1;obtain⟨q3,q4,_⟩:=hrw j r v ej e2;exact h.eX i j o r b c v q1 q3 q2 q4 p1
end
def aI(P:Program)(f:FuncId)(xs:List AV)(tb:Tb)(r:AV)(aO:Tb):Prop:=dV P f/\∀(g:G) (w:World) (vs:List Value) (F:Nat->Prop),aR w g.M F tb g w->aL g vs xs->Calls P f vs.toArray w fun e w'=>∃v g',e= .returned v/\g.le g'/\aR w g.M F aO g' w'/\aZ g' v r
end Go.Av
namespace Go.Av
open Go.RowKit
def DQ(P:Program)(t:TypeId):Option (List (Nat×TypeId)):=match P.underlying t with
 |some (.struct fs)=>if fs.toList.all (fun f=>f.name !="_")=true then some (fs.toList.map fun f=>(f.offset,f.type))else none
 |_=>none
def v_(P:Program)(t:TypeId):Bool:=!P.stoodInHeld t&&!P.eqGuardType P.depth t
def Tz(P:Program)(t:TypeId):PC->PC->Option Bool
 | .sc (.int k a),.sc (.int k' b)=>if Av.intOf P t=some k/\k=k' then some (a==b)else none
 | .sc (.string a),.sc (.string b)=>if isStr P t=true then some (bs a==bs b)else none
 | .sc (.bool a),.sc (.bool b)=>if isBool P t=true then some (a==b)else none
 |_,_=>none
def J_(P:Program)(xs ys:List PC):List (Nat×TypeId)->Option Bool
 |[]=>some true
 |(o,t)::l=>match xs[o]?,ys[o]? with
  |some x,some y=>(match Tz P t x y,J_ P xs ys l with
   |some a,some b=>some (a&&b)
   |_,_=>none)
  |_,_=>none
def TA(P:Program)(xs ys:List PC):Option (List (Nat×TypeId))->Option Bool
 |some l=>J_ P xs ys l
 |none=>none
theorem s9{M:Mem}{u v:Value}(h:gB M u (.sc v)):u=v:=by cases h;rfl
theorem OV{P:Program}{M:Mem}{t:TypeId}{x y:PC}{r:Bool}{u v:Value}(h:Tz P t x y=some r)(hu:gB M u x)(hv:gB M v y)(d:Nat)(w:World):(Op.equalIn (d+1) t u v).run P w= .ok r w/\P.plainKey t=true:=by
 unfold Tz at h;split at h
 ·split at h
  ·rename_i hc;obtain⟨h1,rfl⟩:=hc;obtain rfl:=s9 hu;obtain rfl:=s9 hv;injection h with h;unfold intOf at h1;split at h1
   ·rename_i k hk;injection h1 with h1;subst h1;exact⟨by simp[Op.equalIn,run_underlying hk,<-h],by simp[Program.plainKey,hk]⟩
   ·cases h1
  ·cases h
 ·split at h
  ·rename_i hc;obtain rfl:=s9 hu;obtain rfl:=s9 hv;injection h with h;have hk:P.underlying t=some .string:=by
    unfold isStr at hc;split at hc
    ·rename_i hk;exact hk
    ·cases hc
   rename_i a b;have e:(a==b)=r:=by rw[beq_toListBytes,toList_bs,toList_bs,h]
   exact⟨by simp[Op.equalIn,run_underlying hk,e],by simp[Program.plainKey,hk]⟩
  ·cases h
 ·split at h
  ·rename_i hc;obtain rfl:=s9 hu;obtain rfl:=s9 hv;injection h with h;have hk:P.underlying t=some .bool:=by
    unfold isBool at hc;split at hc
    ·rename_i hk;exact hk
    ·cases hc
   exact⟨by simp[Op.equalIn,run_underlying hk,<-h],by simp[Program.plainKey,hk]⟩
  ·cases h
 ·cases h
theorem Fx{P:Program}{M:Mem}{us vs:List Value}{xs ys:List PC}(hu:cP M us xs)(hv:cP M vs ys)(d:Nat)(w:World):∀(fs:List Field) (r:Bool),(∀f∈fs,f.name≠"_")->J_ P xs ys (fs.map fun f=>(f.offset,f.type))=some r->(Op.eqFields (d+1) us.toArray vs.toArray fs).run P w= .ok r w
 |[],r,_,h=>by simp[J_]at h;subst h;simp[Op.eqFields]
 |f::fs,r,hn,h=>by
  simp only[List.map_cons,J_]at h;split at h
  ·rename_i x y hx hy;split at h
   ·rename_i a b ha hb;injection h with h;obtain⟨u,yy,Dv⟩:=hu.get hx;obtain⟨v,OW,we⟩:=hv.get hy;obtain⟨h1,h2⟩:=OV ha Dv we d w;have p1:=run_part_plain (P:=P) w h2 (xs:=us.toArray) (off:=f.offset) (v:=u) (by simpa using yy);have p2:=run_part_plain (P:=P) w h2 (xs:=vs.toArray) (off:=f.offset) (v:=v) (by simpa using OW);have ih:=Fx hu hv d w fs b (fun g hg=>hn g (by simp[hg])) hb;simp only[Op.eqFields,hn f (by simp),ne_eq,not_false_eq_true,if_true,Sem.run_bind,p1,p2,h1,Result.andThen_ok];subst h;cases a
    ·simp
    ·simpa using ih
   ·cases h
  ·cases h
theorem OX{P:Program}{M:Mem}{t:TypeId}{us vs:List Value}{xs ys:List PC}{r:Bool}(hu:cP M us xs)(hv:cP M vs ys)(h:TA P xs ys (DQ P t)=some r)(ho:v_ P t=true)(w:World):(Op.equal t (.agg us.toArray) (.agg vs.toArray)).run P w= .ok r w:=by
 unfold DQ at h;split at h
 ·rename_i fs hf;split at h
  ·rename_i hn;have hfs:P.fieldsOf t=fs:=by simp[Program.fieldsOf,hf]
   simp only[v_,Bool.and_eq_true,Bool.not_eq_true']at ho;have:=run_equalIn_struct (P:=P) w 9999 t us.toArray vs.toArray (by rw[hfs];exact hf) ho.1;show(Op.equalIn (9999+1) t (.agg us.toArray) (.agg vs.toArray)).run P w= .ok r w;rw[this,hfs];exact Fx hu hv 9998 w fs.toList r (fun f hm=>by have:=List.all_eq_true.1 hn f hm;simpa using this) h
  ·simp[TA]at h
 ·simp[TA]at h
def sd:AV->Option Bool
 | .p .nil=>some true
 | .p (.sl (_::_))=>some false
 | .own _ (_::_)=>some false
 | .full (_::_)=>some false
 | .nn _=>some false
 | .view _ _ (_+1) _ _=>some false
 | .view _ _ _ _ (some (_+1))=>some false
 |_=>none
def qx:AV->Option Bool
 | .p (.sc (.pointer none))=>some true
 | .p (.ref _)=>some false
 | .obj _ _=>some false
 |_=>none
def uB(P:Program)(t:TypeId):Bool:=match P.underlying t with|some (.pointer _)=>true|_=>false
def qy(k:AV->Prop)(op:BinOp):Option Bool->Prop
 |some b=>(op= .eql/\k (.p (.bool b)))\/(op= .neq/\k (.p (.bool !b)))
 |none=>False
def Eu(P:Program)(op:BinOp)(t:TypeId)(k:AV->Prop):AV->AV->Prop
 | .p (.agg false ys),.p (.agg false xs)=>v_ P t=true/\qy k op (TA P xs ys (DQ P t))
 |y,x=>bM P op t k x y
def vh(P:Program)(op:BinOp)(t:TypeId)(k:AV->Prop)(x:AV):AV->Prop
 | .p .nil=>(aJ P t).isSome=true/\qy k op (sd x)
 | .p (.sc (.pointer none))=>uB P t=true/\qy k op (qx x)
 |y=>Eu P op t k y.nm x.nm
def qz(P:Program)(t:TypeId)(k:AV->Prop)(ps:List (Nat×AV)):Prop:=bu P t=true/\match bJ P t with
 |some z=>(match mK P t (z.map .p) ps with
  |some zs=>k (.agg false zs)
  |none=>False)
 |none=>False
def cF:PC->Bool
 | .agg b _=>!b
 |_=>true
def xF(P:Program)(t:TypeId)(n:Nat)(k:AV->Prop)(ps:List (Nat×AV)):Prop:=match cV P t with
 |some (_,sz,_)=>0<sz/\bq 0 ps=true/\ps.length=n/\n*sz<=16777216/\match dR (ps.map fun p=>p.2.nm)with
  |some ys=>ys.all (fun y=>y.width==sz&&cF y)=true/\k (.full ys)
  |none=>False
 |none=>False
def Ct(i:Nat)(k:AV->Prop):AV->Prop
 | .agg true xs=>match xs[i]? with
  |some y=>k y
  |none=>False
 |x=>oy i k x.nm
def tP(P:Program)(t:TypeId)(i:Nat)(k:AV->Prop):AV->Prop
 | .agg false xs=>match dc P t i with
  |some (off,s,a)=>match ji off s a xs with
   |some y=>k y
   |none=>False
  |none=>False
 |x=>wH P t i k x.nm
def Ev(k:AV->Prop):AV->Prop
 | .obj id off=>k (.obj id off)
 | .kV t x=>k (.kV t x)
 |x=>Km k x.nm
def Oj(P:Program)(op:Op)(e:Operand->AV)(k:AV->Prop):Prop:=match op with
 | .build t ps=>qz P t k (dB e ps)
 | .buildSlice t n ps=>xF P t n k (dB e ps)
 | .extract x i=>Ct i k (e x)
 | .field t x i=>tP P t i k (e x)
 | .nilCheck x=>Ev k (e x)
 | .binOp op t x y _=>vh P op t k (e x) (e y)
 |op=>G8 P op e k
section
variable{P:Program}{sl:Nat->AV}{o:Oper}
theorem Xn{x:Operand}{i:Nat}{xs:List AV}{y:AV}(ho:o.op= .extract x i)(hx:bH sl x= .agg true xs)(hy:xs[i]?=some y):cO P sl o y:=dj fun w0 M0 F tb g a w hw h=>by
 have h1:=h x (by simp[ho,Op.operands]);rw[hx]at h1;generalize hv:a.eval x=v at h1;cases h1 with
 |o4 hs=>
  obtain⟨u,hu,hr⟩:=hs.get hy;exact⟨u,by simp[execOp,ho,hv,Instr.extract,hu],hr⟩
theorem Mb{t:TypeId}{x:Operand}{i off s:Nat}{ag:Bool}{xs:List AV}{y:AV}(ho:o.op= .field t x i)(hx:bH sl x= .agg false xs)(hf:dc P t i=some (off,s,ag))(hp:ji off s ag xs=some y):cO P sl o y:=dj fun w0 M0 F tb g a w hw h=>by
 have h1:=h x (by simp[ho,Op.operands]);rw[hx]at h1;generalize hv:a.eval x=v at h1;cases h1 with
 |agg hs hone=>
  rename_i vs;have hlen:=hs.length;unfold dc at hf;split at hf
  ·rename_i fs hU;split at hf
   ·rename_i f G7;split at hf
    ·rename_i s' a' hs' G5;injection hf with hf;obtain⟨rfl,rfl,rfl⟩:=by simpa using hf
     unfold ji at hp;cases a' with
     |true=>
      simp only[if_true]at hp;split at hp
      ·rename_i hle;injection hp with hp;subst hp;refine⟨.agg ((vs.drop f.offset).take s').toArray,?_,.agg ((hs.drop _).take _) fun u hu=>hone u (List.mem_of_mem_drop (List.mem_of_mem_take hu))⟩;have hrun:=rA (P:=P) (t:=f.type) (a:=true) hs' G5 (vs:=vs) (off:=f.offset) (u:= .agg ((vs.drop f.offset).take s').toArray) (by simp only[if_true];congr 1;apply Array.ext';simp[List.extract]) w;simp[execOp,ho,hv,Instr.field,run_underlying hU,G7,asAgg,hrun]
      ·cases hp
     |false=>
      simp only[Bool.false_eq_true,if_false]at hp;split at hp
      ·obtain⟨u,hu,hr⟩:=hs.get hp;refine⟨u,?_,hr⟩;have hrun:=rA (P:=P) (t:=f.type) (a:=false) hs' G5 (vs:=vs) (off:=f.offset) (u:=u) (by simpa using hu) w;simp[execOp,ho,hv,Instr.field,run_underlying hU,G7,asAgg,hrun]
      ·cases hp
    ·cases hf
   ·cases hf
  ·cases hf
theorem Xo{x:Operand}{id off:Nat}(ho:o.op= .nilCheck x)(hx:bH sl x= .obj id off):cO P sl o (.obj id off):=dj fun w0 M0 F tb g a w hw h=>by
 have h1:=h x (by simp[ho,Op.operands]);rw[hx]at h1;generalize hv:a.eval x=v at h1;cases h1 with
 |obj e=>exact⟨_,by simp[execOp,ho,hv],.obj e⟩
theorem Xp{x:Operand}{t:TypeId}{y:AV}(ho:o.op= .nilCheck x)(hx:bH sl x= .kV t y):cO P sl o (.kV t y):=dj fun w0 M0 F tb g a w hw h=>by
 have h1:=h x (by simp[ho,Op.operands]);rw[hx]at h1;generalize hv:a.eval x=v at h1;cases h1 with
 |kV e=>exact⟨_,by simp[execOp,ho,hv],.kV e⟩
theorem Ew{t:TypeId}(h:(aJ P t).isSome=true):∃e,P.underlying t=some (.slice e):=by
 obtain⟨s,hs⟩:=Option.isSome_iff_exists.1 h;unfold aJ at hs;split at hs
 ·rename_i e he;exact⟨e,he⟩
 ·cases hs
theorem Ik{g:G}{v:Value}{x:AV}{b:Bool}(h:aZ g v x)(e:sd x=some b):∃a n c,v= .slice a n c/\a.isNone=b:=by
 have ne:∀{v:Value} {M:Mem} {y:PC} {ys:List PC},gB M v (.sl (y::ys))->∃a n c,v= .slice a n c/\a.isNone=false:=fun h=>by
  cases h with
  |sl _ _ _ _ _ _ _ _=>exact⟨_,_,_,rfl,rfl⟩
 unfold sd at e;split at e
 ·injection e with e;subst e;cases h with|p h=>cases h;exact⟨_,_,_,rfl,rfl⟩
 ·injection e with e;subst e;cases h with|p h=>exact ne h
 ·injection e with e;subst e;cases h with|own _ h=>exact ne h
 ·injection e with e;subst e;cases h with|full h=>exact ne h
 ·injection e with e;subst e;cases h with|nn _=>exact⟨_,_,_,rfl,rfl⟩
 ·injection e with e;subst e;cases h with|view _ h1 _ h3 _=>cases h3 with
   |real _ _ ha _=>subst ha;exact⟨_,_,_,rfl,rfl⟩
   |void h0 _=>omega
 ·injection e with e;subst e;cases h with|view _ h1 _ h3 h4=>cases h3 with
   |real _ _ ha _=>subst ha;exact⟨_,_,_,rfl,rfl⟩
   |void h0 _=>have:=h4 _ rfl;omega
 ·cases e
theorem Ex{g:G}{v:Value}{x:AV}{b:Bool}(h:aZ g v x)(e:qx x=some b):∃a,v= .pointer a/\a.isNone=b:=by
 unfold qx at e;split at e<;>first|(injection e with e;subst e)|cases e
 ·cases h with|p h=>cases h;exact⟨_,rfl,rfl⟩
 ·cases h with|p h=>cases h;exact⟨_,rfl,rfl⟩
 ·cases h;exact⟨_,rfl,rfl⟩
theorem Q2{op:BinOp}{t t':TypeId}{x y:Operand}{b:Bool}{k:AV->Prop}(ho:o.op= .binOp op t x y t')(hy:bH sl y= .p .nil)(hx:sd (bH sl x)=some b)(ht:(aJ P t).isSome=true)(hk:qy k op (some b)):∃r,k r/\cO P sl o r:=by
 obtain⟨e,he⟩:=Ew ht;have run:∀(r:Bool),(∀(a:Option Addr) (n c:Nat) (w:World),a.isNone=b->(binOp op t (.slice a n c) (.slice none 0 0)).run P w= .ok (.bool r) w)->cO P sl o (.p (.bool r)):=fun r hr=>
  dj fun w0 M0 F tb g a w hw h=>by
   have h1:=h x (by simp[ho,Op.operands]);have h2:=h y (by simp[ho,Op.operands]);rw[hy]at h2;obtain⟨ad,n,c,e1,e2⟩:=Ik h1 hx;have h2:=bf h2;generalize hv:a.eval y=v at h2;cases h2;have:=hr ad n c w e2;refine⟨.bool r,?_,.p (.sc _ rfl)⟩;simp only[execOp,ho,e1,hv,eqGuard,Sem.run_bind];cases op<;>simp[this]
 rcases hk with⟨rfl,hk⟩|⟨rfl,hk⟩
 ·exact⟨_,hk,run _ fun a n c w ha=>by rw[Lib.run_eql_slice_nil w t e a n c 0 0 he,ha]⟩
 ·exact⟨_,hk,run _ fun a n c w ha=>by rw[run_neq_slice_nil_any w t e a n c 0 0 he,ha]⟩
theorem Mc{op:BinOp}{t t':TypeId}{x y:Operand}{b:Bool}{k:AV->Prop}(ho:o.op= .binOp op t x y t')(hy:bH sl y= .p (.sc (.pointer none)))(hx:qx (bH sl x)=some b)(ht:uB P t=true)(hk:qy k op (some b)):∃r,k r/\cO P sl o r:=by
 have he:P.underlying t=some (.pointer (P.pointee t)):=by
  unfold uB at ht;split at ht
  ·rename_i e he;simp[Program.pointee,he]
  ·cases ht
 have run:∀(r:Bool),(∀(a:Option Addr) (w:World),a.isNone=b->(binOp op t (.pointer a) (.pointer none)).run P w= .ok (.bool r) w)->cO P sl o (.p (.bool r)):=fun r hr=>
  dj fun w0 M0 F tb g a w hw h=>by
   have h1:=h x (by simp[ho,Op.operands]);have h2:=h y (by simp[ho,Op.operands]);rw[hy]at h2;obtain⟨ad,e1,e2⟩:=Ex h1 hx;have h2:=bI h2;have:=hr ad w e2;refine⟨.bool r,?_,.p (.sc _ rfl)⟩;simp only[execOp,ho,e1,h2,eqGuard,Sem.run_bind];cases op<;>simp[this]
 rcases hk with⟨rfl,hk⟩|⟨rfl,hk⟩
 ·exact⟨_,hk,run _ fun a w ha=>by rw[run_eql_pointer_nil w t a he,ha]⟩
 ·exact⟨_,hk,run _ fun a w ha=>by rw[run_neq_pointer_nil w t a he,ha]⟩
theorem ahi{op:BinOp}{t t':TypeId}{x y:Operand}{r:Bool}{xs ys:List PC}{k:AV->Prop}(ho:o.op= .binOp op t x y t')(hy:(bH sl y).nm= .p (.agg false ys))(hx:(bH sl x).nm= .p (.agg false xs))(h1:v_ P t=true)(he:TA P xs ys (DQ P t)=some r)(hk:qy k op (some r)):∃r,k r/\cO P sl o r:=by
 have hg:P.eqGuardType P.depth t=false:=by simp only[v_,Bool.and_eq_true,Bool.not_eq_true']at h1;exact h1.2
 have run:∀(b:Bool),(∀(us vs:Array Value) (w:World),(Op.equal t (.agg us) (.agg vs)).run P w= .ok r w->(binOp op t (.agg us) (.agg vs)).run P w= .ok (.bool b) w)->cO P sl o (.p (.bool b)):=fun b hb=>
  bK fun w0 M0 F tb g a w hw h=>by
   have g1:=h x (by simp[ho,Op.operands]);rw[hx]at g1;have g2:=h y (by simp[ho,Op.operands]);rw[hy]at g2;have g1:=bf g1;have g2:=bf g2;refine⟨.bool b,?_,.p (.sc _ rfl)⟩;generalize hu:a.eval x=u at g1;generalize hv:a.eval y=v at g2;cases g1 with
   |agg us _=>
    cases g2 with
    |agg vs _=>
     have key:=OX us vs he h1 w;have hb':=hb _ _ w key;simp only[execOp,ho,hu,hv,Sem.run_bind,run_eqGuard_agg w op t x y _ _ hg,Result.andThen_ok,hb'];simp
 rcases hk with⟨rfl,hk⟩|⟨rfl,hk⟩
 ·exact⟨_,hk,run _ fun us vs w hr=>by simp[binOp,hr]⟩
 ·exact⟨_,hk,run _ fun us vs w hr=>by simp[binOp,hr]⟩
theorem se{k:AV->Prop}(h:Oj P o.op (bH sl) k):∃x,k x/\cO P sl o x:=by
 unfold Oj at h;split at h
 ·rename_i t ps ho;unfold qz at h;obtain⟨h1,h⟩:=h;split at h
  ·rename_i z hz;split at h
   ·rename_i zs hf;exact⟨_,h,Q3 ho hz h1 hf⟩
   ·exact h.elim
  ·exact h.elim
 ·rename_i t n ps ho;unfold xF at h;split at h
  ·rename_i e sz bV ht;obtain⟨h1,h2,h3,h4,h⟩:=h;split at h
   ·rename_i ys hys;obtain⟨h5,h⟩:=h;have h6:=List.all_eq_true.1 h5;have io:∀(l:List (Nat×Operand)) (k:Nat),bq k (l.map fun p=>(p.1,bH sl p.2))=bq k l:=by
     intro l;induction l with
     |nil=>intro k;rfl
     |cons p l ih=>intro k;simp[bq,ih]
    refine⟨_,h,Cu ho ht h1 (by rw[<-io];exact h2) (by simpa[dB]using h3) h4 (by rw[<-hys];simp[dB,Function.comp_def]) (fun y hy=>?_) (fun y hy b xs e=>?_)⟩
    ·have:=h6 y hy;simp at this;exact this.1
    ·have:=h6 y hy;subst e;simp[cF]at this;exact this.2
   ·exact h.elim
  ·exact h.elim
 ·rename_i x i ho;unfold Ct at h;split at h
  ·rename_i xs hx;split at h
   ·rename_i y hy;exact⟨_,h,Xn ho hx hy⟩
   ·exact h.elim
  ·exact rf (P:=P) (o:=o) (by unfold Z9 G8;rw[ho];exact h)
 ·rename_i t x i ho;unfold tP at h;split at h
  ·rename_i xs hx;split at h
   ·rename_i off s a hf;split at h
    ·rename_i y hy;exact⟨_,h,Mb ho hx hf hy⟩
    ·exact h.elim
   ·exact h.elim
  ·exact rf (P:=P) (o:=o) (by unfold Z9 G8;rw[ho];exact h)
 ·rename_i x ho;unfold Ev at h;split at h
  ·rename_i id off hx;exact⟨_,h,Xo ho hx⟩
  ·rename_i t y hx;exact⟨_,h,Xp ho hx⟩
  ·exact rf (P:=P) (o:=o) (by unfold Z9 G8;rw[ho];exact h)
 ·rename_i op t x y t' ho;unfold vh at h;split at h
  ·rename_i hy;obtain⟨h1,h⟩:=h;cases hn:sd (bH sl x)with
   |none=>rw[hn]at h;exact h.elim
   |some b=>rw[hn]at h;exact Q2 ho hy hn h1 h
  ·rename_i hy;obtain⟨h1,h⟩:=h;cases hn:qx (bH sl x)with
   |none=>rw[hn]at h;exact h.elim
   |some b=>rw[hn]at h;exact Mc ho hy hn h1 h
  ·unfold Eu at h;split at h
   ·rename_i ys xs hy hx;obtain⟨h1,h⟩:=h;cases he:TA P xs ys (DQ P t)with
    |none=>rw[he]at h;exact h.elim
    |some r=>rw[he]at h;exact ahi ho hy hx h1 he h
   ·exact rf (P:=P) (o:=o) (by unfold Z9 G8;rw[ho];exact h)
 ·exact rf (P:=P) (o:=o) h
end
end Go.Av
