/- DiskSizes, part 8: an abstract interpreter over a program's form, with the proof that it is sound; it holds for any program that the model takes. -/
import Derived.Test.YtgkdpbambfgahaaGreatDoorWag
set_option linter.all false
set_option maxRecDepth 100000
set_option maxHeartbeats 64000000
namespace Go.Av
open Go.RowKit
def X3(P:Program)(cx:Cx)(ops:Array Oper)(K:AS->Prop)(rest:List Oper)(sl:Nat->AV)(d:Option Tmp):AV->Tb->Prop:=fun x tb=>yx P cx ops K rest ⟨eD sl d x,tb⟩
def X4(P:Program)(cx:Cx)(m:List (Nat×iw))(ops:Array Oper)(K:AS->Prop)(i:Nat)(rest:List Oper)(sl:Nat->AV)(d:Option Tmp):AV->Tb->Prop:=fun x tb=>A_ P cx m ops K (i+1) rest ⟨eD sl d x,tb⟩
def qK(k:AV->Tb->Prop)(tb:Tb):AV->Prop:=fun x=>k x tb
def RX(P:Program)(cx:Cx)(b:Code)(Q:Exit->AS->Prop):Exit->AS->Prop:=fun e st'=>match e with
 | .normal=>aw P cx b st' Q
 |e=>Q e st'
def RY(id:Nat)(Q:Exit->AS->Prop):Exit->AS->Prop:=fun e st'=>match e with
 | .exit j=>if j=id then Q .normal st' else Q (.exit j) st'
 |e=>Q e st'
def norm(Q:Exit->AS->Prop):AS->Prop:=fun st=>Q .normal st
section
variable{P:Program}{cx:Cx}{Q:Exit->AS->Prop}{K:AS->Prop}{k:AV->Prop}{kt:AV->Tb->Prop}{st st':AS}{sl:Nat->AV}{tb aO:Tb}{m:List (Nat×iw)}
@[congr]theorem ahU{c:Code}(h:st=st'):aw P cx c st Q=aw P cx c st' Q:=by rw[h]
@[congr]theorem acz{ops:Array Oper}{l:List Oper}(h:st=st'):yx P cx ops K l st=yx P cx ops K l st':=by rw[h]
@[congr]theorem acA{ops:Array Oper}{i:Nat}{l:List Oper}(h:st=st'):A_ P cx m ops K i l st=A_ P cx m ops K i l st':=by rw[h]
@[simp]theorem ak7:aw P cx .skip st Q=Q .normal st:=(rfl)
@[simp]theorem ak8{i:Nat}:aw P cx (.exit i) st Q=Q (.exit i) st:=(rfl)
@[simp]theorem anf:aw P cx .ret st Q=Q .ret st:=(rfl)
@[simp]theorem ang{a b:Code}:aw P cx (.seq a b) st Q=aw P cx a st (RX P cx b Q):=(rfl)
@[simp]theorem ahV{i:Nat}{c:Code}:aw P cx (.block i c) st Q=aw P cx c st (RY i Q):=(rfl)
@[simp]theorem ak9{i:Nat}{l:List Oper}:aw P cx (.region i l.toArray false) st Q=El P cx l.toArray (norm Q) st (X5 (lk i cx.ot)):=(rfl)
@[congr]theorem X6{ops:Array Oper}{x y:Bool}(hs:st=st')(h:x=y):El P cx ops K st x=El P cx ops K st' y:=by rw[hs,h]
@[simp]theorem X7{l:List Oper}:El P cx l.toArray K st false=yx P cx l.toArray K l st:=(rfl)
@[simp]theorem acB:X5 none=false:=(rfl)
@[congr]theorem X8{ops:Array Oper}{x y:Option OT}{m':List (Nat×iw)}(hm:m=m')(hs:st=st')(h:x=y):EK P cx m ops K st x=EK P cx m' ops K st' y:=by rw[hm,hs,h]
@[congr]theorem Uz{ops:Array Oper}{t:OT}{b:Bool}(hs:st=st'):en P cx ops K t b st=en P cx ops K t b st':=by rw[hs]
def wkK(P:Program)(cx:Cx)(ops:Array Oper)(K:AS->Prop)(sub:OT)(sl:Nat->AV)(d:Option Tmp):AV->Tb->Prop:=fun x tb=>en P cx ops K sub true ⟨eD sl d x,tb⟩
def wkX(P:Program)(cx:Cx)(ops:Array Oper)(K:AS->Prop)(sub:OT)(st:AS)(o:Option Oper):Prop:=wkO P cx ops (en P cx ops K sub true) st o
@[congr]theorem acC{ops:Array Oper}{sub:OT}{x y:Option Oper}(hs:st=st')(h:x=y):wkX P cx ops K sub st x=wkX P cx ops K sub st' y:=by rw[hs,h]
@[simp]theorem ak_{i:Nat}{l:List Oper}:aw P cx (.region i l.toArray true) st Q=EK P cx (cx.m i) l.toArray (norm Q) st (lk i cx.ot):=(rfl)
@[simp]theorem acD{l:List Oper}:EK P cx m l.toArray K st none=A_ P cx m l.toArray K 0 l st:=(rfl)
@[simp]theorem acE{l:List Oper}{i:Nat}{s t:OT}:EK P cx m l.toArray K st (some (.br i s t))=en P cx l.toArray K (.br i s t) true st:=(rfl)
@[simp]theorem ahW{l:List Oper}{i:Nat}{s:OT}:EK P cx m l.toArray K st (some (.one i s))=en P cx l.toArray K (.one i s) true st:=(rfl)
@[simp]theorem ahX{l:List Oper}:en P cx l.toArray K .lf true st=K st:=by simp[en]
@[simp]theorem acF{l:List Oper}:en P cx l.toArray K .lf false st=True:=by simp[en]
@[simp]theorem ahY{l:List Oper}{i:Nat}{sub It:OT}{b:Bool}:en P cx l.toArray K (.br i sub It) b st=(wkX P cx l.toArray K sub st l[i]?/\en P cx l.toArray K It false st):=by
 simp only[en,wkX,List.getElem?_toArray]
def wkY(P:Program)(cx:Cx)(ops:Array Oper)(K:AS->Prop)(sub:OT)(st:AS)(o:Option Oper):Prop:=wkQ P ops (en P cx ops K sub true) st o
@[congr]theorem acG{ops:Array Oper}{sub:OT}{x y:Option Oper}(hs:st=st')(h:x=y):wkY P cx ops K sub st x=wkY P cx ops K sub st' y:=by rw[hs,h]
@[simp]theorem acH{l:List Oper}{i:Nat}{sub:OT}{b:Bool}:en P cx l.toArray K (.one i sub) b st=wkY P cx l.toArray K sub st l[i]?:=by
 simp only[en,wkY,List.getElem?_toArray]
@[simp]theorem ahZ{l:List Oper}{d:Option Tmp}{op:Op}{ty:TypeId}{pos:String}{after:Array Edge}{sub:OT}:wkY P cx l.toArray K sub ⟨sl,tb⟩ (some ⟨d,op,ty,pos,after,none⟩)=gI P op (bH sl) (qK (wkK P cx l.toArray K sub sl d) tb):=(rfl)
@[simp]theorem ah0{l:List Oper}{d:Option Tmp}{op:Op}{ty:TypeId}{pos:String}{after:Array Edge}{sub:OT}:wkX P cx l.toArray K sub ⟨sl,tb⟩ (some ⟨d,op,ty,pos,after,none⟩)=jx P (cx.sC d) op (bH sl) tb (wkK P cx l.toArray K sub sl d):=(rfl)
@[simp]theorem anh{l:List Oper}{sub:OT}{d:Option Tmp}{x:AV}:wkK P cx l.toArray K sub sl d x tb=en P cx l.toArray K sub true ⟨eD sl d x,tb⟩:=(rfl)
def uN(P:Program)(cx:Cx)(a b:Code)(st:AS)(Q:Exit->AS->Prop):AV->Prop
 | .p (.sc (.bool t))=>if t=true then aw P cx a st Q else aw P cx b st Q
 |_=>False
@[simp]theorem ak'{c:Operand}{a b:Code}:aw P cx (.cond c a b) st Q=uN P cx a b st Q (bH st.sl c):=by
 simp only[aw,uN];split<;>rename_i h<;>simp[h]
@[congr]theorem UA{a b:Code}{x y:AV}(h:x=y):uN P cx a b st Q x=uN P cx a b st Q y:=by rw[h]
@[simp]theorem X9{a b:Code}:uN P cx a b st Q (.p (.sc (.bool true)))=aw P cx a st Q:=by simp[uN]
@[simp]theorem UB{a b:Code}:uN P cx a b st Q (.p (.sc (.bool false)))=aw P cx b st Q:=by simp[uN]
@[simp]theorem ani{b:Code}:RX P cx b Q .normal st=aw P cx b st Q:=(rfl)
@[simp]theorem anj{b:Code}{i:Nat}:RX P cx b Q (.exit i) st=Q (.exit i) st:=(rfl)
@[simp]theorem ank{b:Code}:RX P cx b Q .ret st=Q .ret st:=(rfl)
@[simp]theorem anl{i:Nat}:RY i Q .normal st=Q .normal st:=(rfl)
@[simp]theorem anm{i j:Nat}:RY i Q (.exit j) st=if j=i then Q .normal st else Q (.exit j) st:=(rfl)
@[simp]theorem ann{i:Nat}:RY i Q .ret st=Q .ret st:=(rfl)
@[simp]theorem ala:norm Q st=Q .normal st:=(rfl)
@[simp]theorem alb{ops:Array Oper}:yx P cx ops K [] st=K st:=(rfl)
@[simp]theorem alc{ops:Array Oper}{i:Nat}:A_ P cx m ops K i [] st=K st:=(rfl)
@[simp]theorem ah1{ops:Array Oper}{d:Option Tmp}{op:Op}{ty:TypeId}{pos:String}{after:Array Edge}{rest:List Oper}:yx P cx ops K (⟨d,op,ty,pos,after,none⟩::rest) ⟨sl,tb⟩=jx P (cx.sC d) op (bH sl) tb (X3 P cx ops K rest sl d):=(rfl)
@[simp]theorem ah2{ops:Array Oper}{d:Option Tmp}{op:Op}{ty:TypeId}{pos:String}{after:Array Edge}{rest:List Oper}{i:Nat}:A_ P cx m ops K i (⟨d,op,ty,pos,after,none⟩::rest) ⟨sl,tb⟩=Ba P cx (cx.sC d) op (bH sl) tb (X4 P cx m ops K i rest sl d) (eO m i):=(rfl)
def xQ(ops:List Oper)(j:Nat):Option Tmp:=(ops[j]?).bind (·.dst)
def gdG(a b:Prop):Option Bool->Prop
 |some true=>a
 |some false=>b
 |none=>False
def RZ(P:Program)(cx:Cx)(ops:Array Oper)(K:AS->Prop)(rest:List Oper)(sl:Nat->AV)(tb:Tb)(d:Option Tmp)(op:Op)(want:Bool)(x:AV):Prop:=gdG (jx P (cx.sC d) op (bH sl) tb (X3 P cx ops K rest sl d)) (yx P cx ops K rest ⟨eD sl d (.agg true []),tb⟩) (qC want x)
def UC(P:Program)(cx:Cx)(m:List (Nat×iw))(ops:Array Oper)(K:AS->Prop)(i:Nat)(rest:List Oper)(sl:Nat->AV)(tb:Tb)(d:Option Tmp)(op:Op)(want:Bool)(x:AV):Prop:=gdG (Ba P cx (cx.sC d) op (bH sl) tb (X4 P cx m ops K i rest sl d) (eO m i)) (A_ P cx m ops K (i+1) rest ⟨eD sl d (.agg true []),tb⟩) (qC want x)
def slot(sl:Nat->AV):Option Tmp->AV
 |some d=>sl d
 |none=> .any
@[simp]theorem acI{l:List Oper}{d:Option Tmp}{op:Op}{ty:TypeId}{pos:String}{after:Array Edge}{rest:List Oper}{j:Nat}{want:Bool}:yx P cx l.toArray K (⟨d,op,ty,pos,after,some (j,want)⟩::rest) ⟨sl,tb⟩=RZ P cx l.toArray K rest sl tb d op want (slot sl (xQ l j)):=by
 simp only[yx,gW,xQ,List.getElem?_toArray];generalize(l[j]?).bind (·.dst)=s;cases s with
 |none=>rfl
 |some t=>
  simp only[slot];generalize sl t=v;unfold RZ;cases qC want v with
  |none=>rfl
  |some b=>cases b<;>rfl
@[simp]theorem acJ{l:List Oper}{d:Option Tmp}{op:Op}{ty:TypeId}{pos:String}{after:Array Edge}{rest:List Oper}{j:Nat}{want:Bool}{i:Nat}:A_ P cx m l.toArray K i (⟨d,op,ty,pos,after,some (j,want)⟩::rest) ⟨sl,tb⟩=UC P cx m l.toArray K i rest sl tb d op want (slot sl (xQ l j)):=by
 simp only[A_,gW,xQ,List.getElem?_toArray];generalize(l[j]?).bind (·.dst)=s;cases s with
 |none=>rfl
 |some t=>
  simp only[slot];generalize sl t=v;unfold UC;cases qC want v with
  |none=>rfl
  |some b=>cases b<;>rfl
section
variable{ops:Array Oper}{rest:List Oper}{d:Option Tmp}{op:Op}{want:Bool}{i:Nat}
@[congr]theorem acK{x y:AV}(h:x=y):RZ P cx ops K rest sl tb d op want x=RZ P cx ops K rest sl tb d op want y:=by rw[h]
@[congr]theorem acL{x y:AV}(h:x=y):UC P cx m ops K i rest sl tb d op want x=UC P cx m ops K i rest sl tb d op want y:=by rw[h]
@[simp]theorem ano:RZ P cx ops K rest sl tb d op true (.p (.sc (.bool true)))=jx P (cx.sC d) op (bH sl) tb (X3 P cx ops K rest sl d):=(rfl)
@[simp]theorem anp:RZ P cx ops K rest sl tb d op false (.p (.sc (.bool false)))=jx P (cx.sC d) op (bH sl) tb (X3 P cx ops K rest sl d):=(rfl)
@[simp]theorem anq:RZ P cx ops K rest sl tb d op true (.p (.sc (.bool false)))=yx P cx ops K rest ⟨eD sl d (.agg true []),tb⟩:=(rfl)
@[simp]theorem anr:RZ P cx ops K rest sl tb d op false (.p (.sc (.bool true)))=yx P cx ops K rest ⟨eD sl d (.agg true []),tb⟩:=(rfl)
@[simp]theorem ans:UC P cx m ops K i rest sl tb d op true (.p (.sc (.bool true)))=Ba P cx (cx.sC d) op (bH sl) tb (X4 P cx m ops K i rest sl d) (eO m i):=(rfl)
@[simp]theorem ant:UC P cx m ops K i rest sl tb d op false (.p (.sc (.bool false)))=Ba P cx (cx.sC d) op (bH sl) tb (X4 P cx m ops K i rest sl d) (eO m i):=(rfl)
@[simp]theorem anu:UC P cx m ops K i rest sl tb d op true (.p (.sc (.bool false)))=A_ P cx m ops K (i+1) rest ⟨eD sl d (.agg true []),tb⟩:=(rfl)
@[simp]theorem anv:UC P cx m ops K i rest sl tb d op false (.p (.sc (.bool true)))=A_ P cx m ops K (i+1) rest ⟨eD sl d (.agg true []),tb⟩:=(rfl)
@[simp]theorem anw:RZ P cx ops K rest sl tb d op want (.agg true [])=yx P cx ops K rest ⟨eD sl d (.agg true []),tb⟩:=(rfl)
@[simp]theorem anx{x:AV}:X3 P cx ops K rest sl d x tb=yx P cx ops K rest ⟨eD sl d x,tb⟩:=(rfl)
@[simp]theorem anz{x:AV}:X4 P cx m ops K i rest sl d x tb=A_ P cx m ops K (i+1) rest ⟨eD sl d x,tb⟩:=(rfl)
@[congr]theorem acM{x y:AV}(h:x=y)(h2:tb=aO):X3 P cx ops K rest sl d x tb=X3 P cx ops K rest sl d y aO:=by rw[h,h2]
@[congr]theorem acN{x y:AV}(h:x=y)(h2:tb=aO):X4 P cx m ops K i rest sl d x tb=X4 P cx m ops K i rest sl d y aO:=by rw[h,h2]
end
@[simp]theorem X_{o:Oper}{l:List Oper}:xQ (o::l) 0=o.dst:=(rfl)
@[simp]theorem X'{o:Oper}{l:List Oper}{j:Nat}:xQ (o::l) (j+1)=xQ l j:=(rfl)
@[simp]theorem acO{d:Tmp}:slot sl (some d)=sl d:=(rfl)
@[simp]theorem aph{x:AV}:qK kt tb x=kt x tb:=(rfl)
@[congr]theorem ah3{x y:AV}(h:x=y):qK kt tb x=qK kt tb y:=by rw[h]
@[simp]theorem ah4{d:Tmp}{x:AV}:eD sl (some d) x=rF sl d x:=(rfl)
@[simp]theorem ah5{x:AV}:eD sl none x=sl:=(rfl)
@[simp]theorem anA{t:Tmp}:bH sl (.tmp t)=sl t:=(rfl)
@[simp]theorem ald{f:FuncId}:bH sl (.func f)= .p (.fn (.func f) []):=(rfl)
@[simp]theorem ale{b:Bool}:bH sl (.const (.bool b))= .p (.sc (.bool b)):=(rfl)
@[simp]theorem anB{c:IntKind}{n:Int}:bH sl (.const (.int c n))= .p (.sc (.int c n)):=(rfl)
@[simp]theorem anC{s:ByteArray}:bH sl (.const (.string s))= .p (.sc (.string s)):=(rfl)
@[simp]theorem anD:bH sl (.const (.slice none 0 0))= .p .nil:=(rfl)
@[simp]theorem anE:bH sl (.const (.pointer none))= .p (.sc (.pointer none)):=(rfl)
@[simp]theorem ah6{f:Nat->AV}{d:Nat}{x:AV}:rF f d x d=x:=by simp[rF]
@[simp]theorem anF{f:Nat->AV}{d t:Nat}{x:AV}(h:(t==d)=false):rF f d x t=f t:=by simp at h;simp[rF,h]
@[simp]theorem alf{α:Type}{t:Nat}:lk t ([]:List (Nat×α))=none:=(rfl)
@[simp]theorem ah7{α:Type}{t i:Nat}{v:α}{l:List (Nat×α)}:lk t ((i,v)::l)=if t=i then some v else lk t l:=(rfl)
@[simp]theorem ah8{α:Type}{t:Nat}:del t ([]:List (Nat×α))=[]:=(rfl)
@[simp]theorem acP{α:Type}{t i:Nat}{v:α}{l:List (Nat×α)}:del t ((i,v)::l)=if t=i then del t l else(i,v)::del t l:=(rfl)
@[simp]theorem UD{α:Type}{l:List (Nat×α)}:cu [] l=l:=(rfl)
@[simp]theorem R_{α:Type}{i:Nat}{v:α}{s l:List (Nat×α)}:cu ((i,v)::s) l=del i (cu s l):=(rfl)
@[simp]theorem ah9{bx:List (Nat×Ob)}{rw:List (Nat×TypeId×Nat)}{nx:Nat}{o:Ob}:Tb.aT ⟨bx,rw,nx⟩ o=⟨(nx,o)::bx,rw,nx+1⟩:=(rfl)
@[simp]theorem ah_{bx:List (Nat×Ob)}{rw:List (Nat×TypeId×Nat)}{nx id:Nat}:Tb.cE ⟨bx,rw,nx⟩ id=⟨del id bx,rw,nx⟩:=(rfl)
@[simp]theorem ah'{bx:List (Nat×Ob)}{rw:List (Nat×TypeId×Nat)}{nx:Nat}{e:TypeId}{s:Nat}:Tb.bX ⟨bx,rw,nx⟩ e s=⟨bx,(nx,e,s)::rw,nx+1⟩:=(rfl)
@[simp]theorem aia{bx:List (Nat×Ob)}{rw:List (Nat×TypeId×Nat)}{nx id:Nat}{o:Ob}:Tb.aQ ⟨bx,rw,nx⟩ id o=⟨(id,o)::del id bx,rw,nx⟩:=(rfl)
@[simp]theorem Ya{bx:List (Nat×Ob)}{rw:List (Nat×TypeId×Nat)}{nx:Nat}{e:TypeId}{s:Nat}:nK ⟨bx,rw,nx⟩ none e s=⟨bx,(nx,e,s)::rw,nx+1⟩:=(rfl)
@[simp]theorem Yb{bx:List (Nat×Ob)}{rw:List (Nat×TypeId×Nat)}{nx id:Nat}{e:TypeId}{s:Nat}:nK ⟨bx,rw,nx⟩ (some id) e s=⟨bx,(nx,e,s)::del id rw,nx+1⟩:=(rfl)
@[simp]theorem aib{bx bx1 bx2:List (Nat×Ob)}{rw rw1 rw2:List (Nat×TypeId×Nat)}{nx nx1 nx2:Nat}:Tb.merge ⟨bx,rw,nx⟩ ⟨bx1,rw1,nx1⟩ ⟨bx2,rw2,nx2⟩=⟨bx2++cu bx1 bx,rw2++cu rw1 rw,nx2⟩:=(rfl)
@[simp]theorem acQ{α:Type}{l:List (Nat×α)}:ay l []=True:=(rfl)
@[simp]theorem Yc{α:Type}{l s:List (Nat×α)}{i:Nat}{v:α}:ay l ((i,v)::s)=(lk i l=some v/\ay l s):=(rfl)
@[simp]theorem acR{md:List Nat}{cls:List (Nat×List (Nat×iw))}{lab:List (Nat×Nat)}{eW:Nat}{ot:List (Nat×OT)}{d:Tmp}:Cx.sC ⟨md,cls,lab,eW,ot⟩ (some d)=md.contains d:=(rfl)
@[simp]theorem acS:Cx.sC cx none=false:=(rfl)
def Sb:Option (List (Nat×iw))->List (Nat×iw)
 |some l=>l
 |none=>[]
def Sc:Option iw->iw
 |some c=>c
 |none=> .q
@[simp]theorem anG{md:List Nat}{cls:List (Nat×List (Nat×iw))}{lab:List (Nat×Nat)}{eW:Nat}{ot:List (Nat×OT)}{d:Nat}:Cx.m ⟨md,cls,lab,eW,ot⟩ d=Sb (lk d cls):=by
 unfold Cx.m mOf Sb;cases lk d cls<;>rfl
@[simp]theorem acT{l:List (Nat×iw)}:Sb (some l)=l:=(rfl)
@[simp]theorem acU:Sb none=[]:=(rfl)
@[simp]theorem aic{l:List (Nat×iw)}{i:Nat}:eO l i=Sc (lk i l):=by
 unfold eO Sc;cases lk i l<;>rfl
@[simp]theorem acV{c:iw}:Sc (some c)=c:=(rfl)
@[simp]theorem acW:Sc none= .q:=(rfl)
def lbG:Option Nat->Nat
 |some c=>c
 |none=>0
@[simp]theorem api{md:List Nat}{cls:List (Nat×List (Nat×iw))}{lab:List (Nat×Nat)}{eW:Nat}{ot:List (Nat×OT)}{l:Nat}:Cx.lb ⟨md,cls,lab,eW,ot⟩ l=lbG (lk l lab):=by
 unfold Cx.lb lbG;cases lk l lab<;>rfl
@[simp]theorem aid{c:Nat}:lbG (some c)=c:=(rfl)
def nmG(t:Bool)(xs:List AV):Option (List PC)->AV
 |some ys=> .p (.agg t ys)
 |none=> .agg t xs
def CS:Option PC->Option (List PC)->Option (List PC)
 |some x,some l=>some (x::l)
 |_,_=>none
def pcG(t:Bool):Option (List PC)->Option PC
 |some ys=>some (.agg t ys)
 |none=>none
@[simp]theorem apN{x:PC}:AV.pc (.p x)=some x:=(rfl)
@[simp]theorem anH{i:Nat}{xs:List PC}:AV.pc (.own i xs)=some (.sl xs):=(rfl)
@[simp]theorem alg{xs:List PC}:AV.pc (.full xs)=some (.sl xs):=(rfl)
@[simp]theorem alh{i o n s:Nat}{c:Option Nat}:AV.pc (.view i o n s c)=none:=(rfl)
@[simp]theorem Yd{t:Bool}{xs:List AV}:AV.pc (.agg t xs)=pcG t (AV.pc.gu xs):=by
 simp only[AV.pc,pcG];cases AV.pc.gu xs<;>rfl
@[simp]theorem ali:AV.pc.gu []=some []:=(rfl)
@[simp]theorem aie{x:AV}{l:List AV}:AV.pc.gu (x::l)=CS x.pc (AV.pc.gu l):=by
 simp only[AV.pc.gu];cases x.pc<;>cases AV.pc.gu l<;>rfl
@[simp]theorem alj{l:List PC}:AV.pc.gu (l.map .p)=some l:=by
 induction l with
 |nil=>rfl
 |cons x l ih=>simp[ih,CS]
@[simp]theorem Ye{x:PC}{l:List PC}:CS (some x) (some l)=some (x::l):=(rfl)
@[simp]theorem Yf{l:Option (List PC)}:CS none l=none:=by cases l<;>rfl
@[simp]theorem UE{x:Option PC}:CS x none=none:=by cases x<;>rfl
@[simp]theorem aif{t:Bool}{l:List PC}:pcG t (some l)=some (.agg t l):=(rfl)
@[simp]theorem apO{x:PC}:AV.nm (.p x)= .p x:=(rfl)
@[simp]theorem anI{i:Nat}{xs:List PC}:AV.nm (.own i xs)= .p (.sl xs):=(rfl)
@[simp]theorem alk{xs:List PC}:AV.nm (.full xs)= .p (.sl xs):=(rfl)
@[simp]theorem anJ{i o:Nat}:AV.nm (.obj i o)= .obj i o:=(rfl)
@[simp]theorem alm{i o n s:Nat}{c:Option Nat}:AV.nm (.view i o n s c)= .view i o n s c:=(rfl)
@[simp]theorem anK{t:Bool}{xs:List AV}:AV.nm (.agg t xs)=nmG t xs (AV.pc.gu xs):=by
 simp only[AV.nm,Yd];cases AV.pc.gu xs<;>rfl
@[simp]theorem aih{t:Bool}{xs:List AV}{ys:List PC}:nmG t xs (some ys)= .p (.agg t ys):=(rfl)
@[simp]theorem aii{t:Bool}{xs:List AV}:nmG t xs none= .agg t xs:=(rfl)
variable{e:Operand->AV}{md:Bool}
@[simp]theorem anL{x:Operand}:jx P md (.move x) e tb kt=gI P (.move x) e (qK kt tb):=(rfl)
@[simp]theorem aij{x:Operand}:jx P md (.assign x) e tb kt=gI P (.assign x) e (qK kt tb):=(rfl)
@[simp]theorem anM{c a b:Operand}:jx P md (.pick c a b) e tb kt=gI P (.pick c a b) e (qK kt tb):=(rfl)
@[simp]theorem UF{t:TypeId}{x:Operand}{i:Nat}:jx P md (.fieldAddr t x i) e tb kt=gI P (.fieldAddr t x i) e (qK kt tb):=(rfl)
@[simp]theorem UG{t:TypeId}{x i:Operand}:jx P md (.indexAddr t x i) e tb kt=gI P (.indexAddr t x i) e (qK kt tb):=(rfl)
@[simp]theorem aln{t:TypeId}{x i:Operand}:jx P md (.index t x i) e tb kt=gI P (.index t x i) e (qK kt tb):=(rfl)
@[simp]theorem aik{t:TypeId}{x:Operand}:jx P md (.slice t x none none none) e tb kt=slT P t tb kt (gI P (.slice t x none none none) e (qK kt tb)) (e x):=(rfl)
@[simp]theorem ail{t:TypeId}{x lo:Operand}{hi mx:Option Operand}:jx P md (.slice t x (some lo) hi mx) e tb kt=gI P (.slice t x (some lo) hi mx) e (qK kt tb):=(rfl)
@[simp]theorem aim{t:TypeId}{x hi:Operand}:jx P md (.slice t x none (some hi) none) e tb kt=gI P (.slice t x none (some hi) none) e (qK kt tb):=(rfl)
@[simp]theorem acX{t:TypeId}{x hi mx:Operand}:jx P true (.slice t x none (some hi) (some mx)) e tb kt=zA P t tb kt (e hi).nm (e mx).nm (e x):=(rfl)
@[congr]theorem UH{t:TypeId}{a a' b b' x x':AV}(h1:a=a')(h2:b=b')(h3:x=x'):zA P t tb kt a b x=zA P t tb kt a' b' x':=by rw[h1,h2,h3]
@[simp]theorem alo{t:TypeId}{k1 k2:IntKind}{h m:Int}{id f n s:Nat}{c:Option Nat}:zA P t tb kt (.p (.sc (.int k1 h))) (.p (.sc (.int k2 m))) (.view id f n s c)=(aJ P t=some s/\f=0/\h=(n:Int)/\m=(n:Int)/\clO tb kt id n s (lk id tb.bx)):=(rfl)
@[congr]theorem acY{id n s:Nat}{y y':Option Ob}(h:y=y'):clO tb kt id n s y=clO tb kt id n s y':=by rw[h]
@[simp]theorem ain{id n s:Nat}{ob:Ob}:clO tb kt id n s (some ob)=(ob.sz=s/\kt (.view tb.nx 0 n s (some n)) ((tb.cE id).aT ⟨ob.el,ob.sz,ob.xs.take (n*s)⟩)):=(rfl)
@[simp]theorem alp{t:TypeId}{i o:Nat}{q:Prop}:slT P t tb kt q (.obj i o)=(o=0/\slO tb kt i (lk i tb.bx) (gL P t)):=(rfl)
@[simp]theorem aio{i m s:Nat}{ob:Ob}{ag:Bool}:slO tb kt i (some ob) (some (m,s,ag))=(s=1/\slC tb kt i m ob.sz (dR ob.xs)):=(rfl)
@[simp]theorem aip{i m sz:Nat}{zs:List PC}:slC tb kt i m sz (some zs)=(sz=m/\zs.length=m/\0<m/\m<=maxLen/\kt (.full zs) ⟨del i tb.bx,tb.rw,tb.nx+1⟩):=(rfl)
@[simp]theorem aiq{zs:List PC}:dR (zs.map .p)=some zs:=by induction zs with
 |nil=>rfl
 |cons z l ih=>simp[dR,ih]
@[simp]theorem alq{op:BinOp}{t t2:TypeId}{x y:Operand}:jx P md (.binOp op t x y t2) e tb kt=gI P (.binOp op t x y t2) e (qK kt tb):=(rfl)
@[simp]theorem anN{op:UnOp}{t:TypeId}{x:Operand}:jx P md (.unOp op t x) e tb kt=gI P (.unOp op t x) e (qK kt tb):=(rfl)
@[simp]theorem acZ{s d:TypeId}{x:Operand}:jx P md (.convert s d x) e tb kt=nL P md s d tb kt (e x):=(rfl)
@[simp]theorem alr{s d:TypeId}{x:PC}:nL P false s d tb kt (.p x)=nE P s d (qK kt tb) (.p x):=(rfl)
@[simp]theorem Yg{s d:TypeId}{xs:List PC}:nL P false s d tb kt (.full xs)=nE P s d (qK kt tb) (AV.full xs).nm:=(rfl)
@[simp]theorem Yh{s d:TypeId}{id f n z:Nat}{m:Option Nat}(h:isStr P d=true):nL P md s d tb kt (.view id f n z m)=cvV P s d tb kt (.view id f n z m):=by simp only[nL,h,if_true]
@[simp]theorem UI{s d:TypeId}{id f n z:Nat}{m:Option Nat}(h:isStr P d=false):nL P md s d tb kt (.view id f n z m)=Yi P s d tb kt (.view id f n z m) id n (lk id tb.bx):=by simp only[nL,h,Bool.false_eq_true,if_false]
@[congr]theorem ac0{s d:TypeId}{x:AV}{id n:Nat}{y y':Option Ob}(h:y=y'):Yi P s d tb kt x id n y=Yi P s d tb kt x id n y':=by rw[h]
@[simp]theorem air{d:TypeId}{x:AV}{id n:Nat}{ob:Ob}(h:dL P d=true):Yi P d d tb kt x id n (some ob)=(ob.el<1000000/\0<ob.xs.length/\0<n/\kt x (tb.aQ id {ob with el:=ob.el+1000000})):=by simp only[Yi,h,true_and]
@[simp]theorem ac1{s d:TypeId}{b:ByteArray}:nL P true s d tb kt (.p (.sc (.string b)))=Yj P s d tb kt b (cV P d):=(rfl)
@[congr]theorem UJ{s d:TypeId}{x x':AV}(h:x=x'):nL P md s d tb kt x=nL P md s d tb kt x':=by rw[h]
@[congr]theorem ac2{s d:TypeId}{b:ByteArray}{x x':Option (TypeId×Nat×Nat)}(h:x=x'):Yj P s d tb kt b x=Yj P s d tb kt b x':=by rw[h]
@[simp]theorem ais{s d:TypeId}{b:ByteArray}{z:TypeId×Nat×Nat}(h1:isStr P s=true)(h2:dL P d=true)(h3:z.2.1=1):Yj P s d tb kt b (some z)=((bs b).length<=9223372036854775807/\kt (.view tb.nx 0 (bs b).length 1 none) (tb.aT ⟨z.1+1000000,1,(ah (bs b)).map .p⟩)):=by
 obtain⟨z1,z2,z3⟩:=z;simp only at h3;simp[Yj,h1,h2,h3]
theorem T8{s d:TypeId}{x:AV}(l:List UInt8)(h1:dL P s=true)(h2:isStr P d=true)(h3:cQ tb.bx 1 x (.sl (ah l)))(hk:kt (.p (.str l)) tb):cvV P s d tb kt x:=⟨h1,h2,l,h3,hk⟩
@[simp]theorem Jt{t:TypeId}{x:Operand}:jx P md (.makeInterface t x) e tb kt=gI P (.makeInterface t x) e (qK kt tb):=(rfl)
@[simp]theorem Yl{f:Fn}{fs cs:Array Operand}:jx P md (.makeFunc f fs cs) e tb kt=gI P (.makeFunc f fs cs) e (qK kt tb):=(rfl)
@[simp]theorem ac3{x:Operand}{i:Nat}:jx P md (.extract x i) e tb kt=gI P (.extract x i) e (qK kt tb):=(rfl)
@[simp]theorem Ym{x:Operand}:jx P md (.nilCheck x) e tb kt=gI P (.nilCheck x) e (qK kt tb):=(rfl)
@[simp]theorem als{t:TypeId}{ps:Array (Nat×Operand)}:jx P md (.build t ps) e tb kt=gI P (.build t ps) e (qK kt tb):=(rfl)
@[simp]theorem Sd{t:TypeId}{n:Nat}{l:List (Nat×Operand)}:jx P false (.buildSlice t n l.toArray) e tb kt=MO P t n tb kt (xF P t n (qK kt tb) (l.map fun p=>(p.1,e p.2))) (l.map fun p=>(p.1,e p.2)) (dR ((l.map fun p=>(p.1,e p.2)).map fun p=>p.2.nm)):=(rfl)
@[simp]theorem ac4{t:TypeId}{n:Nat}{q:Prop}{ps:List (Nat×AV)}{ys:List PC}:MO P t n tb kt q ps (some ys)=q:=(rfl)
@[simp]theorem ac5{t:TypeId}{n:Nat}{q:Prop}{ps:List (Nat×AV)}:MO P t n tb kt q ps none=tY n tb kt ps (cV P t):=(rfl)
@[congr]theorem Se{n:Nat}{ps ps':List (Nat×AV)}{o o':Option (TypeId×Nat×Nat)}(h:ps=ps')(h2:o=o'):tY n tb kt ps o=tY n tb kt ps' o':=by rw[h,h2]
theorem Ar{n:Nat}{ps:List (Nat×AV)}{e0:TypeId}{sz bV:Nat}(ys:List PC)(aO:Tb)(h1:0<sz/\bq 0 ps=true/\ps.length=n/\n*sz<=16777216)(h2:wZ tb aO (ps.map (·.2)) ys)(h3:∀y∈ys,y.width=sz)(h4:∀y∈ys,cF y=true)(hk:kt (.full ys) aO):tY n tb kt ps (some (e0,sz,bV)):=⟨h1.1,h1.2.1,h1.2.2.1,h1.2.2.2,ys,aO,h2,h3,h4,hk⟩
@[simp]theorem On{t:TypeId}{n:Nat}{l:List (Nat×Operand)}:jx P true (.buildSlice t n l.toArray) e tb kt=uO P t n tb kt (l.map fun p=>(p.1,e p.2)) (dR ((l.map fun p=>(p.1,e p.2)).map fun p=>p.2.nm)):=(rfl)
@[simp]theorem ac6{t:TypeId}{n:Nat}{ps:List (Nat×AV)}{ys:List PC}:uO P t n tb kt ps (some ys)=xF P t n (MP P t n tb kt) ps:=(rfl)
@[simp]theorem ac7{t:TypeId}{n:Nat}{ps:List (Nat×AV)}:uO P t n tb kt ps none=Iu t n tb kt ps (cV P t):=(rfl)
@[simp]theorem ac8{t e':TypeId}{n sz bV:Nat}{ps:List (Nat×AV)}:Iu t n tb kt ps (some (e',sz,bV))=(0<sz/\bq 0 ps=true/\ps.length=n/\n*sz<=16777216/\Iv e' sz n tb kt (kZ sz (ps.map (·.2)))):=(rfl)
@[simp]theorem ac9{e':TypeId}{n sz:Nat}{zs:List AV}:Iv e' sz n tb kt (some zs)=kt (.view tb.nx 0 n sz (some n)) (tb.aT ⟨e',sz,zs⟩):=(rfl)
@[simp]theorem Yn{sz:Nat}:kZ sz []=some []:=(rfl)
@[simp]theorem UK{sz:Nat}{x:AV}{l:List AV}:kZ sz (x::l)=tQ sz x.cR (kZ sz l):=(rfl)
@[simp]theorem UL{sz:Nat}{zs r:List AV}:tQ sz (some zs) (some r)=if zs.length=sz then some (zs++r)else none:=(rfl)
def MQ(n:Nat)(ys:List PC)(tb:Tb)(kt:AV->Tb->Prop):Option (TypeId×Nat×Nat)->Prop
 |some (e,sz,_)=>kt (.view tb.nx 0 n sz (some n)) (tb.aT ⟨e,sz,ys.flatMap aV⟩)
 |none=>False
@[congr]theorem UM{n:Nat}{ys:List PC}{x y:Option (TypeId×Nat×Nat)}(h:x=y):MQ n ys tb kt x=MQ n ys tb kt y:=by rw[h]
@[simp]theorem Yo{n:Nat}{ys:List PC}{z:TypeId×Nat×Nat}:MQ n ys tb kt (some z)=kt (.view tb.nx 0 n z.2.1 (some n)) (tb.aT ⟨z.1,z.2.1,ys.flatMap aV⟩):=(rfl)
@[simp]theorem ac_{t:TypeId}{n:Nat}{ys:List PC}:MP P t n tb kt (.full ys)=MQ n ys tb kt (cV P t):=by
 unfold MP MQ;generalize cV P t=z;cases z<;>rfl
@[simp]theorem anO{t:TypeId}{x:Operand}:jx P false (.box t x) e tb kt=gI P (.box t x) e (qK kt tb):=(rfl)
@[simp]theorem anP{t:TypeId}{x:Operand}:jx P true (.box t x) e tb kt=EL P t tb kt (e x):=(rfl)
@[simp]theorem ait{t:TypeId}:jx P md (.alloc t) e tb kt=xR P tb kt (bJ P t) t:=(rfl)
@[simp]theorem alu{t:TypeId}{x:Operand}:jx P md (.load t x) e tb kt=loadT P t tb kt (e x):=(rfl)
@[simp]theorem aiu{t:TypeId}{x y:Operand}:jx P md (.store t x y) e tb kt=storeT P t tb kt (e x) (e y):=(rfl)
@[simp]theorem apj{x y:Operand}{t u:TypeId}:jx P md (.call ⟨.builtin .append,#[x,y],#[t,u]⟩) e tb kt=CT P md u tb kt (cV P t) (e x) (e y):=by simp[jx]
@[simp]theorem anQ{x y:Operand}{t u:TypeId}:jx P md (.call ⟨.builtin .copy,#[x,y],#[t,u]⟩) e tb kt=cpT tb kt (aJ P t) (e x) (e y):=by simp[jx]
@[simp]theorem alv{x:Operand}{t:TypeId}:jx P md (.call ⟨.builtin .clear,#[x],#[t]⟩) e tb kt=Yp P tb kt (e x) (cV P t):=by simp[jx]
@[simp]theorem UN{t:TypeId}{x y:Operand}:jx P false (.makeSlice t x y) e tb kt=Yq P tb kt (e x).nm (e y).nm (cV P t):=(rfl)
@[simp]theorem Sf{t:TypeId}{x y:Operand}:jx P true (.makeSlice t x y) e tb kt=mkP P tb kt (e x).nm (e y).nm (cV P t):=(rfl)
@[congr]theorem ac'{z z':Option (TypeId×Nat×Nat)}{x x' y y':AV}(h:x=x')(h2:y=y')(h3:z=z'):mkP P tb kt x y z=mkP P tb kt x' y' z':=by rw[h,h2,h3]
@[congr]theorem Yr{n c:Int}{bV s:Nat}{z z':Option (List PC)}(h3:z=z'):Iw tb kt n c bV s z=Iw tb kt n c bV s z':=by rw[h3]
@[simp]theorem aiv{e0:TypeId}{k1 k2:IntKind}{n c:Int}{s bV:Nat}:mkP P tb kt (.p (.sc (.int k1 n))) (.p (.sc (.int k2 c))) (some (e0,s,bV))=Iw tb kt n c bV s (bJ P e0):=(rfl)
@[simp]theorem ada{u:Value}{n c:Int}{s bV:Nat}:Iw tb kt n c bV s (some [.sc u])=(s=1/\0<=n/\n=c/\bV*n.toNat<=281474976710656/\n.toNat<=maxLen/\kt (.p (.sl (List.replicate n.toNat (.sc u)))) ⟨tb.bx,tb.rw,tb.nx+2⟩):=(rfl)
@[congr]theorem Ys{md md':Bool}{u:TypeId}{z z':Option (TypeId×Nat×Nat)}{x x' y y':AV}(h0:md=md')(h3:z=z')(h:x=x')(h2:y=y'):CT P md u tb kt z x y=CT P md' u tb kt z' x' y':=by rw[h0,h,h2,h3]
@[congr]theorem adb{z z':Option Nat}{x x' y y':AV}(h3:z=z')(h:x=x')(h2:y=y'):cpT tb kt z x y=cpT tb kt z' x' y':=by rw[h,h2,h3]
@[congr]theorem ade{z z':Option (TypeId×Nat×Nat)}{x x':AV}(h:x=x')(h3:z=z'):Yp P tb kt x z=Yp P tb kt x' z':=by rw[h,h3]
@[congr]theorem adf{z z':Option (TypeId×Nat×Nat)}{x x' y y':AV}(h:x=x')(h2:y=y')(h3:z=z'):Yq P tb kt x y z=Yq P tb kt x' y' z':=by rw[h,h2,h3]
@[simp]theorem anR{u:TypeId}{z:Option (TypeId×Nat×Nat)}{x y:AV}(h:isNone x):CT P true u tb kt z x y=MR P u tb kt x y z:=by
 unfold isNone at h;split at h
 ·rfl
 ·rfl
 ·exact h.elim
@[simp]theorem aiw{u:TypeId}{z:Option (TypeId×Nat×Nat)}{i:Nat}{x:List PC}{y:AV}:CT P false u tb kt z (.own i x) y=yM P u tb kt (.own i x) y.nm z:=(rfl)
@[simp]theorem adg{md:Bool}{u:TypeId}{z:Option (TypeId×Nat×Nat)}{id f n s:Nat}{m:Option Nat}{y:AV}:CT P md u tb kt z (.view id f n s m) y=Sg P u tb kt id f n s m y z:=(rfl)
@[simp]theorem UO:isNone (.full [])=True:=(rfl)
@[simp]theorem Yt:isNone (.p .nil)=True:=(rfl)
section
variable{u e:TypeId}{id f n s bV s':Nat}{m:Option Nat}{y y':AV}{ob:Ob}
@[simp]theorem adh:Sg P u tb kt id f n s m y (some (e,s',bV))=(s'=s/\EM P u tb kt id f n s m bV e y (Av.intOf P u) (lk id tb.bx)):=(rfl)
@[congr]theorem Yu{a a':Option IntKind}{b b':Option Ob}(h:y=y')(h1:a=a')(h2:b=b'):EM P u tb kt id f n s m bV e y a b=EM P u tb kt id f n s m bV e y' a' b':=by rw[h,h1,h2]
@[simp]theorem anS:EM P u tb kt id f n s m bV e y none (some ob)=(ob.sz=s/\(f+n)*s<=ob.xs.length/\MS P u tb kt id f n s bV e ob y m):=(rfl)
@[simp]theorem anT{k:IntKind}:EM P u tb kt id f n s m bV e y (some k) (some ob)=((f+n)*s<=ob.xs.length/\EN P tb kt id f n s bV e ob m y.nm (bJ P e)):=(rfl)
@[simp]theorem anU{m:Nat}:MS P u tb kt id f n s bV e ob y (some m)=nY P tb u s (MT tb kt id f n s m bV e ob) y:=(rfl)
@[simp]theorem anV:MS P u tb kt id f n s bV e ob y none=nY P tb u s (MU tb kt id f n s bV e ob) y:=(rfl)
@[congr]theorem Yv{z z':Option (List PC)}(h:y=y')(h2:z=z'):EN P tb kt id f n s bV e ob m y z=EN P tb kt id f n s bV e ob m y' z':=by rw[h,h2]
@[simp]theorem anW{k:IntKind}{j:Int}{z:List PC}:EN P tb kt id f n s bV e ob none (.p (.sc (.int k j))) (some z)=(f=0/\ob.sz=s/\ob.el=e/\0<s/\0<j/\(n+j.toNat)*bV<=140737488355328/\n+j.toNat<=9223372036854775807/\kt (.view tb.nx 0 (n+j.toNat) s none) ((tb.cE id).aT ⟨e,s,ob.xs.take (n*s)++(fC j.toNat z).map .p⟩)):=(rfl)
@[simp]theorem anX{m:Nat}{k:IntKind}{j:Int}{z:List PC}:EN P tb kt id f n s bV e ob (some m) (.p (.sc (.int k j))) (some z)=(0<s/\0<j/\m-f<n+j.toNat/\(n+j.toNat)*bV<=140737488355328/\n+j.toNat<=9223372036854775807/\kt (.view tb.nx 0 (n+j.toNat) s none) (tb.aT ⟨e,s,(ob.xs.drop (f*s)).take (n*s)++(fC j.toNat z).map .p⟩)):=(rfl)
variable{kz:Nat->List AV->Prop}{j:Nat}{zs:List AV}
@[simp]theorem aix{m:Nat}:MT tb kt id f n s m bV e ob j zs=((f+n+j<=m/\kt (.view id f (n+j) s (some m)) (tb.aQ id {ob with xs:=ob.xs.take ((f+n)*s)++zs++ob.xs.drop ((f+n)*s+j*s)}))\/(m-f<n+j/\(n+j)*bV<=140737488355328/\n+j<=9223372036854775807/\kt (.view tb.nx 0 (n+j) s none) (tb.aT ⟨e,s,(ob.xs.drop (f*s)).take (n*s)++zs⟩))):=(rfl)
@[simp]theorem aiy:MU tb kt id f n s bV e ob j zs=(f=0/\ob.el=e/\(n+j)*bV<=140737488355328/\n+j<=9223372036854775807/\kt (.view tb.nx 0 (n+j) s none) ((tb.cE id).aT ⟨e,s,ob.xs.take (n*s)++zs⟩)):=(rfl)
@[simp]theorem aiz:MV tb kt s bV e j zs=(j*bV<=140737488355328/\j<=9223372036854775807/\kt (.view tb.nx 0 j s none) (tb.aT ⟨e,s,zs⟩)):=(rfl)
def CU(n f s:Nat)(kz:Nat->List AV->Prop):Option Ob->Prop
 |some ob=>(f+n)*s<=ob.xs.length/\kz n ((ob.xs.drop (f*s)).take (n*s))
 |none=>False
@[congr]theorem UP{a b:Option Ob}(h:a=b):CU n f s kz a=CU n f s kz b:=by rw[h]
@[simp]theorem Yw:CU n f s kz (some ob)=((f+n)*s<=ob.xs.length/\kz n ((ob.xs.drop (f*s)).take (n*s))):=(rfl)
@[simp]theorem adi(h:(aJ P u).isSome=true):nY P tb u s kz (.view id f n s' m)=(s'=s/\CU n f s kz (lk id tb.bx)):=by
 simp only[nY,CU,h,true_and];cases lk id tb.bx<;>rfl
@[simp]theorem alw{ys:List PC}(h:(aJ P u).isSome=true):nY P tb u s kz (.p (.sl ys))=((∀y∈ys,y.width=s)/\(∀y∈ys,cF y=true)/\kz ys.length (ys.flatMap aV)):=by simp[nY,h]
@[simp]theorem adj{ys:List PC}:nY P tb u s kz (.full ys)=nY P tb u s kz (.p (.sl ys)):=(rfl)
@[simp]theorem alx{ys:List PC}:nY P tb u s kz (.nn ys)=nY P tb u s kz (.p (.sl ys)):=(rfl)
@[simp]theorem aiA{b:ByteArray}(h:isStr P u=true):nY P tb u s kz (.p (.sc (.string b)))=(s=1/\kz (bs b).length ((ah (bs b)).map .p)):=by simp[nY,h]
@[simp]theorem adk{x:AV}(h:isNone x):MR P u tb kt x y (some (e,s,bV))=xS P u tb kt s bV e y (Av.intOf P u):=by simp[MR,h]
@[congr]theorem UQ{a a':Option IntKind}(h:y=y')(h1:a=a'):xS P u tb kt s bV e y a=xS P u tb kt s bV e y' a':=by rw[h,h1]
@[simp]theorem aly:xS P u tb kt s bV e y none=nY P tb u s (MV tb kt s bV e) y:=(rfl)
@[simp]theorem alz{k:IntKind}:xS P u tb kt s bV e y (some k)=zB tb kt s bV e y.nm (bJ P e):=(rfl)
@[congr]theorem UR{z z':Option (List PC)}(h:y=y')(h2:z=z'):zB tb kt s bV e y z=zB tb kt s bV e y' z':=by rw[h,h2]
@[simp]theorem alA{k:IntKind}{j:Int}{z:List PC}:zB tb kt s bV e (.p (.sc (.int k j))) (some z)=(0<s/\0<j/\j.toNat*bV<=140737488355328/\j.toNat<=9223372036854775807/\kt (.view tb.nx 0 j.toNat s none) (tb.aT ⟨e,s,(fC j.toNat z).map .p⟩)):=(rfl)
end
@[simp]theorem alB{f:Operand}{l:List Operand}{ts:Array TypeId}:jx P md (.call ⟨.value f,l.toArray,ts⟩) e tb kt=uP P (l.map e) tb kt (e f).nm:=by simp[jx]
@[simp]theorem apk{x:Operand}{t:TypeId}:jx P md (.call ⟨.builtin .len,#[x],#[t]⟩) e tb kt=gI P (.call ⟨.builtin .len,#[x],#[t]⟩) e (qK kt tb):=(rfl)
@[simp]theorem apl{x:Operand}{t:TypeId}:jx P md (.call ⟨.builtin .cap,#[x],#[t]⟩) e tb kt=gI P (.call ⟨.builtin .cap,#[x],#[t]⟩) e (qK kt tb):=(rfl)
@[simp]theorem apm{l:Array Operand}{ts:Array TypeId}:jx P md (.call ⟨.builtin .min,l,ts⟩) e tb kt=gI P (.call ⟨.builtin .min,l,ts⟩) e (qK kt tb):=(rfl)
@[simp]theorem apn{l:Array Operand}{ts:Array TypeId}:jx P md (.call ⟨.builtin .max,l,ts⟩) e tb kt=gI P (.call ⟨.builtin .max,l,ts⟩) e (qK kt tb):=(rfl)
@[congr]theorem adl{op:Op}{md md':Bool}(h:md=md')(h2:tb=aO):jx P md op e tb kt=jx P md' op e aO kt:=by rw[h,h2]
@[congr]theorem adn{op:Op}{md md':Bool}{c c':iw}(h:md=md')(h2:tb=aO)(h3:c=c'):Ba P cx md op e tb kt c=Ba P cx md' op e aO kt c':=by rw[h,h2,h3]
@[congr]theorem ado{op:Op}{k:AV->Prop}{e e':Operand->AV}(h:e=e'):gI P op e k=gI P op e' k:=by rw[h]
@[simp]theorem apP{op:Op}:Ba P cx md op e tb kt .q=gI P op e (qK kt tb):=(rfl)
@[simp]theorem apQ{t:TypeId}{x:Operand}{l:Nat}:Ba P cx md (.load t x) e tb kt (.r l)=zC P cx l t tb kt (e x):=(rfl)
@[simp]theorem apR{t:TypeId}{x y:Operand}{l:Nat}{kp:List Nat}:Ba P cx md (.store t x y) e tb kt (.s l kp)=Iy P cx l t tb (xT cx kp tb kt) (e y) (e x):=(rfl)
@[congr]theorem Yx{l:Nat}{t:TypeId}{x x' y y':AV}(h:y=y')(h2:x=x'):Iy P cx l t tb kt y x=Iy P cx l t tb kt y' x':=by rw[h,h2]
@[simp]theorem aiB{l:Nat}{t:TypeId}{id off:Nat}{y:AV}:Iy P cx l t tb kt y (.obj id off)=(id=cx.lb l/\storeT P t tb kt (.obj id off) y):=(rfl)
@[simp]theorem anY{x y:Operand}{t u:TypeId}{ls:List Nat}:Ba P cx md (.call ⟨.builtin .append,#[x,y],#[t,u]⟩) e tb kt (.f ls)=yM P u tb kt (e x) (e y).nm (cV P t):=by simp[Ba]
@[simp]theorem alC{f:Operand}{l:List Operand}{ts:Array TypeId}{ls:List Nat}:Ba P cx md (.call ⟨.value f,l.toArray,ts⟩) e tb kt (.f ls)=tZ P cx ls (l.map e) tb kt (e f).nm:=by simp[Ba]
@[simp]theorem apS{op:Op}{kp:List Nat}:Ba P cx md op e tb kt (.w kp)=jx P md op e tb (xT cx kp tb kt):=(rfl)
@[simp]theorem aiC{kp:List Nat}{MW:Tb}{x:AV}:xT cx kp MW kt x tb=(keeps cx kp MW tb/\kt x tb):=(rfl)
@[simp]theorem adp{MW:Tb}:keeps cx [] MW tb=True:=by simp[keeps]
@[simp]theorem Yy{MW:Tb}{l:Nat}{kp:List Nat}:keeps cx (l::kp) MW tb=(lk (cx.lb l) tb.bx=lk (cx.lb l) MW.bx/\keeps cx kp MW tb):=by simp[keeps]
@[simp]theorem anZ{x:Operand}:gI P (.move x) e k=k (e x):=(rfl)
@[simp]theorem aiD{x:Operand}:gI P (.assign x) e k=k (e x):=(rfl)
@[simp]theorem an0{c a b:Operand}:gI P (.pick c a b) e k=ri k (e a) (e b) (e c).nm:=(rfl)
@[simp]theorem apo{t:TypeId}{x:Operand}:gI P (.box t x) e k=G9 k (e x).nm:=(rfl)
@[simp]theorem an1{t:TypeId}{x:Operand}:gI P (.load t x) e k=uz P t k (e x).nm:=(rfl)
@[simp]theorem US{t:TypeId}{x:Operand}{i:Nat}:gI P (.fieldAddr t x i) e k=TB P t i k (e x):=(rfl)
@[simp]theorem alD{t:TypeId}{x:Operand}{i:Nat}:gI P (.field t x i) e k=tP P t i k (e x):=(rfl)
@[simp]theorem UT{t:TypeId}{x:Tmp}{i:Operand}:gI P (.indexAddr t (.tmp x) i) e k=Om P t k (e (.tmp x)) (e i):=(rfl)
@[simp]theorem adq{t:TypeId}{i:Operand}:gI P (.indexAddr t (.global 0) i) e k=glW P t k (e i).nm:=(rfl)
@[simp]theorem alE{t:TypeId}{x i:Operand}:gI P (.index t x i) e k=qh P t k (e x).nm (e i).nm:=(rfl)
@[simp]theorem an2{t:TypeId}{x lo hi mx:Operand}:gI P (.slice t x (some lo) (some hi) (some mx)) e k=RF P t k (e lo).nm (e hi).nm (e mx).nm (e x):=(rfl)
@[congr]theorem adr{t:TypeId}{a a' b b' c c' x x':AV}(h1:a=a')(h2:b=b')(h3:c=c')(h4:x=x'):RF P t k a b c x=RF P t k a' b' c' x':=by rw[h1,h2,h3,h4]
@[simp]theorem apq{t:TypeId}{id f n s:Nat}{m:Option Nat}{k1 k2 k3:IntKind}{l h c:Int}(ht:(aJ P t).isSome=true):RF P t k (.p (.sc (.int k1 l))) (.p (.sc (.int k2 h))) (.p (.sc (.int k3 c))) (.view id f n s m)=(0<=l/\l<=h/\h<=c/\c<=(n:Int)/\k .any):=by simp[RF,ht]
@[simp]theorem alF{t:TypeId}{x:Operand}{lo hi:Option Operand}:gI P (.slice t x lo hi none) e k=xN P t (lo.map fun y=>(e y).nm) (hi.map fun y=>(e y).nm) k (e x):=(rfl)
@[simp]theorem alG{op:BinOp}{t t':TypeId}{x y:Operand}:gI P (.binOp op t x y t') e k=vh P op t k (e x) (e y):=(rfl)
@[simp]theorem an3{op:UnOp}{t:TypeId}{x:Operand}:gI P (.unOp op t x) e k=rj op k (e x).nm:=(rfl)
@[simp]theorem ads{s d:TypeId}{x:Operand}:gI P (.convert s d x) e k=nE P s d k (e x).nm:=(rfl)
@[simp]theorem Ju{t:TypeId}{x:Operand}:gI P (.makeInterface t x) e k=qi P t k (e x):=(rfl)
@[simp]theorem Yz{f:Fn}{cs:List Operand}:gI P (.makeFunc f #[] cs.toArray) e k=VM f k (cs.map e) (dR (cs.map fun y=>(e y).nm)):=by simp[gI,Oj,G8]
@[simp]theorem YA{t:TypeId}{x:Operand}:gI P (.sliceToArrayPointer t x) e k=Z_ P t k (e x).nm:=(rfl)
@[simp]theorem adt{f:Fn}{x:Operand}{fs:List Operand}:gI P (.makeFunc f (x::fs).toArray #[]) e k=k (.kG f ((x::fs).map e)):=by simp[gI,Oj,G8]
@[simp]theorem adu{x:Operand}{i:Nat}:gI P (.extract x i) e k=Ct i k (e x):=(rfl)
@[simp]theorem YB{x:Operand}:gI P (.nilCheck x) e k=Ev k (e x):=(rfl)
@[simp]theorem alH{t:TypeId}{l:List (Nat×Operand)}:gI P (.build t l.toArray) e k=qz P t k (l.map fun p=>(p.1,e p.2)):=(rfl)
@[simp]theorem Sh{t:TypeId}{n:Nat}{l:List (Nat×Operand)}:gI P (.buildSlice t n l.toArray) e k=xF P t n k (l.map fun p=>(p.1,e p.2)):=(rfl)
@[simp]theorem apr{x:Operand}{t:TypeId}:gI P (.call ⟨.builtin .len,#[x],#[t]⟩) e k=yL P t k (e x):=by simp[gI]
@[simp]theorem aps{x:Operand}{t:TypeId}:gI P (.call ⟨.builtin .cap,#[x],#[t]⟩) e k=A3 P t k (e x):=by simp[gI]
@[simp]theorem apt{l:List Operand}{ts:Array TypeId}:gI P (.call ⟨.builtin .min,l.toArray,ts⟩) e k=DV k (l.map fun y=>(e y).nm):=by simp[gI,Oj,G8]
@[simp]theorem apu{l:List Operand}{ts:Array TypeId}:gI P (.call ⟨.builtin .max,l.toArray,ts⟩) e k=DW k (l.map fun y=>(e y).nm):=by simp[gI,Oj,G8]
@[simp]theorem alI{f:Operand}{l:List Operand}{ts:Array TypeId}:gI P (.call ⟨.value f,l.toArray,ts⟩) e k=tf P k (dR (l.map fun y=>(e y).nm)) (e f).nm:=by simp[gI,Oj,G8]
@[congr]theorem UU{x x' y y' c c':AV}(h1:x=x')(h2:y=y')(h3:c=c'):ri k x y c=ri k x' y' c':=by rw[h1,h2,h3]
@[congr]theorem YC{x x':AV}(h:x=x'):G9 k x=G9 k x':=by rw[h]
@[congr]theorem UW{t:TypeId}{x x':AV}(h:x=x'):uz P t k x=uz P t k x':=by rw[h]
@[congr]theorem adv{t:TypeId}{x x':AV}(h:x=x'):glW P t k x=glW P t k x':=by rw[h]
@[congr]theorem Iz{t:TypeId}{x x' y y':AV}(h:x=x')(h2:y=y'):eS P t k x y=eS P t k x' y':=by rw[h,h2]
@[congr]theorem adw{t:TypeId}{i:Nat}{x x':AV}(h:x=x'):TB P t i k x=TB P t i k x':=by rw[h]
@[congr]theorem adx{t:TypeId}{x x' y y':AV}(h:x=x')(h2:y=y'):Om P t k x y=Om P t k x' y':=by rw[h,h2]
@[congr]theorem ady{t:TypeId}{lo lo' hi hi':Option AV}{x x':AV}(h1:lo=lo')(h2:hi=hi')(h:x=x'):xN P t lo hi k x=xN P t lo' hi' k x':=by rw[h,h1,h2]
@[congr]theorem YD{t:TypeId}{x x':AV}(h:x=x'):yL P t k x=yL P t k x':=by rw[h]
@[congr]theorem YE{t:TypeId}{x x':AV}(h:x=x'):A3 P t k x=A3 P t k x':=by rw[h]
@[congr]theorem Si{t:TypeId}{i:Nat}{x x':AV}(h:x=x'):tP P t i k x=tP P t i k x':=by rw[h]
@[congr]theorem YF{i:Nat}{x x':AV}(h:x=x'):Ct i k x=Ct i k x':=by rw[h]
@[congr]theorem YG{x x':AV}(h:x=x'):Ev k x=Ev k x':=by rw[h]
@[congr]theorem YH{op:BinOp}{t:TypeId}{x x' y y':AV}(h:x=x')(h2:y=y'):vh P op t k x y=vh P op t k x' y':=by rw[h,h2]
@[congr]theorem Sj{t:TypeId}{x x' y y':AV}(h:x=x')(h2:y=y'):qh P t k x y=qh P t k x' y':=by rw[h,h2]
@[congr]theorem Sk{t:TypeId}{lo lo' hi hi':Option AV}{x x':AV}(h1:lo=lo')(h2:hi=hi')(h:x=x'):fM P t lo hi k x=fM P t lo' hi' k x':=by rw[h,h1,h2]
@[congr]theorem Sl{op:BinOp}{t:TypeId}{x x' y y':AV}(h:x=x')(h2:y=y'):bM P op t k x y=bM P op t k x' y':=by rw[h,h2]
@[congr]theorem UX{op:UnOp}{x x':AV}(h:x=x'):rj op k x=rj op k x':=by rw[h]
@[congr]theorem UY{s d:TypeId}{x x':AV}(h:x=x'):nE P s d k x=nE P s d k x':=by rw[h]
@[congr]theorem Sn{t:TypeId}{x x':AV}(h:x=x'):qi P t k x=qi P t k x':=by rw[h]
@[congr]theorem adz{f:Fn}{ys zs:List AV}{x x':Option (List PC)}(hy:ys=zs)(h:x=x'):VM f k ys x=VM f k zs x':=by rw[h,hy]
@[congr]theorem YI{x x':List AV}(h:x=x'):DV k x=DV k x':=by rw[h]
@[congr]theorem YJ{x x':List AV}(h:x=x'):DW k x=DW k x':=by rw[h]
@[congr]theorem So{y y':Option (List PC)}{x x':AV}(h2:y=y')(h:x=x'):tf P k y x=tf P k y' x':=by rw[h,h2]
@[congr]theorem UZ{g:FuncId}{xs xs':List PC}(h:xs=xs'):xU P g xs k=xU P g xs' k:=by rw[h]
@[congr]theorem Sq{t:TypeId}{x x':List (Nat×AV)}(h:x=x'):qz P t k x=qz P t k x':=by rw[h]
@[congr]theorem adA{t:TypeId}{x x':AV}(h:x=x'):Z_ P t k x=Z_ P t k x':=by rw[h]
@[congr]theorem adB{t:TypeId}{q:Prop}{x x':AV}(h:x=x'):slT P t tb kt q x=slT P t tb kt q x':=by rw[h]
@[congr]theorem adC{i:Nat}{x x':Option Ob}{y y':Option (Nat×Nat×Bool)}(h:x=x')(h2:y=y'):slO tb kt i x y=slO tb kt i x' y':=by rw[h,h2]
@[congr]theorem adD{i m s s':Nat}{x x':Option (List PC)}(h1:s=s')(h:x=x'):slC tb kt i m s x=slC tb kt i m s' x':=by rw[h,h1]
@[congr]theorem YK{t:TypeId}{n:Nat}{x x':List (Nat×AV)}{o o':Option (List PC)}(h:x=x')(h2:o=o'):uO P t n tb kt x o=uO P t n tb kt x' o':=by rw[h,h2]
@[congr]theorem YL{t:TypeId}{n:Nat}{x x':List (Nat×AV)}{o o':Option (TypeId×Nat×Nat)}(h:x=x')(h2:o=o'):Iu t n tb kt x o=Iu t n tb kt x' o':=by rw[h,h2]
@[congr]theorem YM{t:TypeId}{n sz:Nat}{o o':Option (List AV)}(h2:o=o'):Iv t sz n tb kt o=Iv t sz n tb kt o':=by rw[h2]
@[congr]theorem YN{t:TypeId}{n:Nat}{x x':List (Nat×AV)}(h:x=x'):xF P t n k x=xF P t n k x':=by rw[h]
@[congr]theorem YO{t:TypeId}{x x':AV}(h:x=x'):EL P t tb kt x=EL P t tb kt x':=by rw[h]
@[congr]theorem Sr{t:TypeId}{x x':Option (List PC)}(h:x=x'):xR P tb kt x t=xR P tb kt x' t:=by rw[h]
@[congr]theorem U0{t:TypeId}{x x':AV}(h:x=x'):loadT P t tb kt x=loadT P t tb kt x':=by rw[h]
@[congr]theorem Sv{t:TypeId}{x x' y y':AV}(h:x=x')(h2:y=y'):storeT P t tb kt x y=storeT P t tb kt x' y':=by rw[h,h2]
@[congr]theorem YP{u:TypeId}{x x' y y':AV}{z z':Option (TypeId×Nat×Nat)}(h:x=x')(h2:y=y')(h3:z=z'):yM P u tb kt x y z=yM P u tb kt x' y' z':=by rw[h,h2,h3]
@[congr]theorem U1{l l':List AV}{x x':AV}(h:l=l')(h2:x=x'):uP P l tb kt x=uP P l' tb kt x':=by rw[h,h2]
@[simp]theorem an4{x:Operand}{name:String}{l:List Operand}{ts:Array TypeId}:jx P md (.call ⟨.invoke x name,l.toArray,ts⟩) e tb kt=IA P name (l.map e) tb kt (e x):=by simp[jx]
@[congr]theorem YQ{name:String}{l l':List AV}{x x':AV}(h:l=l')(h2:x=x'):IA P name l tb kt x=IA P name l' tb kt x':=by rw[h,h2]
@[simp]theorem aiE{name:String}{l:List AV}{t:TypeId}{x:AV}:IA P name l tb kt (.kV t x)=IB P x l tb kt (uQ P t name):=(rfl)
@[congr]theorem YR{x x':AV}{l l':List AV}{o o':Option FuncId}(h:x=x')(h2:l=l')(h3:o=o'):IB P x l tb kt o=IB P x' l' tb kt o':=by rw[h,h2,h3]
@[simp]theorem adE{x:AV}{l:List AV}{gf:FuncId}:IB P x l tb kt (some gf)=t_ P gf [] (x::l) tb kt:=(rfl)
theorem MX{gf:FuncId}{ys l:List AV}{ts ts':Tb}{r:AV}(h:aI P gf ys ts r ts')(hl:toAll l ys)(hb:ay tb.bx ts.bx)(hr:ay tb.rw ts.rw)(hn:ts.nx=tb.nx)(hk:kt r (tb.merge ts ts')):t_ P gf [] l tb kt:=⟨ys,ts,r,ts',hl,by simpa using h,hb,hr,hn,hk⟩
@[congr]theorem Sw{ls:List Nat}{l l':List AV}{x x':AV}(h:l=l')(h2:x=x'):tZ P cx ls l tb kt x=tZ P cx ls l' tb kt x':=by rw[h,h2]
@[congr]theorem U2{l:Nat}{t:TypeId}{x x':AV}(h:x=x'):zC P cx l t tb kt x=zC P cx l t tb kt x':=by rw[h]
@[congr]theorem U3{kp:List Nat}{MW:Tb}{x y:AV}(h:x=y)(h2:tb=aO):xT cx kp MW kt x tb=xT cx kp MW kt y aO:=by rw[h,h2]
def uR(P:Program)(gf:FuncId)(caps:List PC)(args:List AV)(tb:Tb)(kt:AV->Tb->Prop):Prop:=(∃xs,dR (args.map AV.nm)=some xs/\xU P gf (xs.map PC.wk++caps) (qK kt tb))\/t_ P gf caps args tb kt\/LS P gf caps args tb kt\/(caps=[]/\aha P gf args tb kt)
@[simp]theorem aiF{l:List AV}{gf:FuncId}{caps:List PC}:uP P l tb kt (.p (.fn (.func gf) caps))=uR P gf caps l tb kt:=(rfl)
@[simp]theorem adF{ls:List Nat}{l:List AV}{gf:FuncId}{caps:List PC}:tZ P cx ls l tb kt (.p (.fn (.func gf) caps))=EO P cx ls gf caps l tb kt:=(rfl)
theorem bD{g:FuncId}{xs:List PC}{r:PC}(h:aB P g xs r)(hk:k (.p r)):xU P g xs k:=⟨r,h,hk⟩
def aiG(caps:List PC):Option (List PC)->Option (List PC)
 |some xs=>some (xs.map PC.wk++caps)
 |none=>none
@[simp]theorem adG{caps xs:List PC}:aiG caps (some xs)=some (xs.map PC.wk++caps):=(rfl)
theorem ai{gf:FuncId}{caps ys:List PC}{l:List AV}{r:PC}(h:aB P gf ys r)(hl:aiG caps (dR (l.map AV.nm))=some ys)(hk:kt (.p r) tb):uR P gf caps l tb kt:=by
 cases hx:dR (l.map AV.nm)with
 |none=>rw[hx]at hl;cases hl
 |some xs=>rw[hx]at hl;injection hl with hl;subst hl;exact .inl ⟨xs,hx,r,h,hk⟩
theorem az{gf:FuncId}{ys l:List AV}{ts ts':Tb}{r:AV}(h:aI P gf ys ts r ts')(hl:toAll l ys)(hb:ay tb.bx ts.bx)(hr:ay tb.rw ts.rw)(hn:ts.nx=tb.nx)(hk:kt r (tb.merge ts ts')):uR P gf [] l tb kt:= .inr<| .inl ⟨ys,ts,r,ts',hl,by simpa using h,hb,hr,hn,hk⟩
theorem pM{ls:List Nat}{gf:FuncId}{ys l:List AV}{ts ts':Tb}{r:AV}(h:aI P gf ys ts r ts')(hl:toAll l ys)(hb:ay tb.bx ts.bx)(hr:ay tb.rw ts.rw)(hn:ts.nx=tb.nx)(hf:∀l∈ls,lk (cx.lb l) ts.bx=none/\lk (cx.lb l) ts'.bx=none)(hk:kt r (tb.merge ts ts')):EO P cx ls gf [] l tb kt:=⟨ys,ts,r,ts',hl,by simpa using h,hb,hr,hn,hf,hk⟩
theorem bE{gf:FuncId}{ys:List PC}{l:List AV}{r:PC}(h:aB P gf ys r)(hl:ie (cQ tb.bx 4) l ys)(hr:r.flat=true)(hk:kt (.p r) tb):uR P gf [] l tb kt:= .inr<| .inr<| .inl ⟨ys,r,4,hl,by simpa using h,hr,hk⟩
theorem ze(n:Nat){gf:FuncId}{ys:List PC}{l:List AV}{r:PC}(h:aB P gf ys r)(hl:ie (cQ tb.bx n) l ys)(hr:r.flat=true)(hk:kt (.p r) tb):uR P gf [] l tb kt:= .inr<| .inr<| .inl ⟨ys,r,n,hl,by simpa using h,hr,hk⟩
theorem qW{gf:FuncId}{l:List AV}(h:HX P gf){id o n s:Nat}{m:Option Nat}{y:AV}{ob:Ob}(ha:l=[.view id o n s m,y]\/l=[y,.view id o n s m])(hl:lk id tb.bx=some ob)(hsz:ob.sz=s)(hs:0<s)(Ci:ob.el<1000000)(hy:qX y.nm)(hk:kt (.p (.bool false)) tb):uR P gf [] l tb kt:= .inr<| .inr<| .inr ⟨rfl,.inl ⟨h,hk,id,o,n,s,m,y,ob,ha,hl,hsz,hs,Ci,hy⟩⟩
theorem LC{gf:FuncId}{xs:List PC}{l:List AV}{r:PC}(h:P0 P gf xs r)(hl:dR (l.map AV.nm)=some xs)(hk:kt (.p r) tb):uR P gf [] l tb kt:= .inr<| .inr<| .inr ⟨rfl,.inr ⟨xs,r,hl,h,hk⟩⟩
end
end Go.Av
