/- DiskShapes, part 8: an abstract interpreter over any program's form, with its proof of soundness; no condition. -/
import Derived.Test.YtgkdpbambfgahaaGreatDoorWag
set_option linter.all false
set_option maxRecDepth 100000
set_option maxHeartbeats 64000000
namespace Go.Av
open Go.RowKit
def Yj(P:Program)(cx:Cx)(ops:Array Oper)(K:AS->Prop)(rest:List Oper)(sl:Nat->AV)(d:Option Tmp):AV->Tb->Prop:=fun x tb=>z7 P cx ops K rest ⟨eL sl d x,tb⟩
def Yl(P:Program)(cx:Cx)(m:List (Nat×Cls))(ops:Array Oper)(K:AS->Prop)(i:Nat)(rest:List Oper)(sl:Nat->AV)(d:Option Tmp):AV->Tb->Prop:=fun x tb=>CW P cx m ops K (i+1) rest ⟨eL sl d x,tb⟩
def qK(k:AV->Tb->Prop)(tb:Tb):AV->Prop:=fun x=>k x tb
def Tn(P:Program)(cx:Cx)(b:Code)(Q:Exit->AS->Prop):Exit->AS->Prop:=fun e st'=>match e with
 | .normal=>aw P cx b st' Q
 |e=>Q e st'
def Tp(id:Nat)(Q:Exit->AS->Prop):Exit->AS->Prop:=fun e st'=>match e with
 | .exit j=>if j=id then Q .normal st' else Q (.exit j) st'
 |e=>Q e st'
def norm(Q:Exit->AS->Prop):AS->Prop:=fun st=>Q .normal st
section
variable{P:Program}{cx:Cx}{Q:Exit->AS->Prop}{K:AS->Prop}{k:AV->Prop}{kt:AV->Tb->Prop}{st st':AS}{sl:Nat->AV}{tb aM:Tb}{m:List (Nat×Cls)}
@[congr]theorem aey{c:Code}(h:st=st'):aw P cx c st Q=aw P cx c st' Q:=by rw[h]
@[congr]theorem aay{ops:Array Oper}{l:List Oper}(h:st=st'):z7 P cx ops K l st=z7 P cx ops K l st':=by rw[h]
@[congr]theorem aaz{ops:Array Oper}{i:Nat}{l:List Oper}(h:st=st'):CW P cx m ops K i l st=CW P cx m ops K i l st':=by rw[h]
@[simp]theorem ahk:aw P cx .skip st Q=Q .normal st:=(rfl)
@[simp]theorem ahl{i:Nat}:aw P cx (.exit i) st Q=Q (.exit i) st:=(rfl)
@[simp]theorem ajz:aw P cx .ret st Q=Q .ret st:=(rfl)
@[simp]theorem ajA{a b:Code}:aw P cx (.seq a b) st Q=aw P cx a st (Tn P cx b Q):=(rfl)
@[simp]theorem aez{i:Nat}{c:Code}:aw P cx (.block i c) st Q=aw P cx c st (Tp i Q):=(rfl)
@[simp]theorem ahm{i:Nat}{l:List Oper}:aw P cx (.region i l.toArray false) st Q=Gm P cx l.toArray (norm Q) st (Ym (lk i cx.ot)):=(rfl)
@[congr]theorem Yn{ops:Array Oper}{x y:Bool}(hs:st=st')(h:x=y):Gm P cx ops K st x=Gm P cx ops K st' y:=by rw[hs,h]
@[simp]theorem Yo{l:List Oper}:Gm P cx l.toArray K st false=z7 P cx l.toArray K l st:=(rfl)
@[simp]theorem aaA:Ym none=false:=(rfl)
@[congr]theorem Yp{ops:Array Oper}{x y:Option OT}{m':List (Nat×Cls)}(hm:m=m')(hs:st=st')(h:x=y):GR P cx m ops K st x=GR P cx m' ops K st' y:=by rw[hm,hs,h]
@[congr]theorem Va{ops:Array Oper}{t:OT}{b:Bool}(hs:st=st'):eD P cx ops K t b st=eD P cx ops K t b st':=by rw[hs]
def wkK(P:Program)(cx:Cx)(ops:Array Oper)(K:AS->Prop)(sub:OT)(sl:Nat->AV)(d:Option Tmp):AV->Tb->Prop:=fun x tb=>eD P cx ops K sub true ⟨eL sl d x,tb⟩
def wkX(P:Program)(cx:Cx)(ops:Array Oper)(K:AS->Prop)(sub:OT)(st:AS)(o:Option Oper):Prop:=wkO P cx ops (eD P cx ops K sub true) st o
@[congr]theorem aaB{ops:Array Oper}{sub:OT}{x y:Option Oper}(hs:st=st')(h:x=y):wkX P cx ops K sub st x=wkX P cx ops K sub st' y:=by rw[hs,h]
@[simp]theorem ahn{i:Nat}{l:List Oper}:aw P cx (.region i l.toArray true) st Q=GR P cx (cx.m i) l.toArray (norm Q) st (lk i cx.ot):=(rfl)
@[simp]theorem aaC{l:List Oper}:GR P cx m l.toArray K st none=CW P cx m l.toArray K 0 l st:=(rfl)
@[simp]theorem aaD{l:List Oper}{i:Nat}{s t:OT}:GR P cx m l.toArray K st (some (.br i s t))=eD P cx l.toArray K (.br i s t) true st:=(rfl)
@[simp]theorem aeA{l:List Oper}{i:Nat}{s:OT}:GR P cx m l.toArray K st (some (.one i s))=eD P cx l.toArray K (.one i s) true st:=(rfl)
@[simp]theorem aeB{l:List Oper}:eD P cx l.toArray K .lf true st=K st:=by simp[eD]
@[simp]theorem aaE{l:List Oper}:eD P cx l.toArray K .lf false st=True:=by simp[eD]
@[simp]theorem aeC{l:List Oper}{i:Nat}{sub KH:OT}{b:Bool}:eD P cx l.toArray K (.br i sub KH) b st=(wkX P cx l.toArray K sub st l[i]?/\eD P cx l.toArray K KH false st):=by
 simp only[eD,wkX,List.getElem?_toArray]
def wkY(P:Program)(cx:Cx)(ops:Array Oper)(K:AS->Prop)(sub:OT)(st:AS)(o:Option Oper):Prop:=wkQ P ops (eD P cx ops K sub true) st o
@[congr]theorem aaF{ops:Array Oper}{sub:OT}{x y:Option Oper}(hs:st=st')(h:x=y):wkY P cx ops K sub st x=wkY P cx ops K sub st' y:=by rw[hs,h]
@[simp]theorem aaG{l:List Oper}{i:Nat}{sub:OT}{b:Bool}:eD P cx l.toArray K (.one i sub) b st=wkY P cx l.toArray K sub st l[i]?:=by
 simp only[eD,wkY,List.getElem?_toArray]
@[simp]theorem aeD{l:List Oper}{d:Option Tmp}{op:Op}{ty:TypeId}{pos:String}{after:Array Edge}{sub:OT}:wkY P cx l.toArray K sub ⟨sl,tb⟩ (some ⟨d,op,ty,pos,after,none⟩)=h_ P op (bE sl) (qK (wkK P cx l.toArray K sub sl d) tb):=(rfl)
@[simp]theorem aeE{l:List Oper}{d:Option Tmp}{op:Op}{ty:TypeId}{pos:String}{after:Array Edge}{sub:OT}:wkX P cx l.toArray K sub ⟨sl,tb⟩ (some ⟨d,op,ty,pos,after,none⟩)=kP P (cx.uB d) op (bE sl) tb (wkK P cx l.toArray K sub sl d):=(rfl)
@[simp]theorem ajB{l:List Oper}{sub:OT}{d:Option Tmp}{x:AV}:wkK P cx l.toArray K sub sl d x tb=eD P cx l.toArray K sub true ⟨eL sl d x,tb⟩:=(rfl)
def wO(P:Program)(cx:Cx)(a b:Code)(st:AS)(Q:Exit->AS->Prop):AV->Prop
 | .p (.sc (.bool t))=>if t=true then aw P cx a st Q else aw P cx b st Q
 |_=>False
@[simp]theorem aho{c:Operand}{a b:Code}:aw P cx (.cond c a b) st Q=wO P cx a b st Q (bE st.sl c):=by
 simp only[aw,wO];split<;>rename_i h<;>simp[h]
@[congr]theorem Vb{a b:Code}{x y:AV}(h:x=y):wO P cx a b st Q x=wO P cx a b st Q y:=by rw[h]
@[simp]theorem Yq{a b:Code}:wO P cx a b st Q (.p (.sc (.bool true)))=aw P cx a st Q:=by simp[wO]
@[simp]theorem Vc{a b:Code}:wO P cx a b st Q (.p (.sc (.bool false)))=aw P cx b st Q:=by simp[wO]
@[simp]theorem ajC{b:Code}:Tn P cx b Q .normal st=aw P cx b st Q:=(rfl)
@[simp]theorem ajD{b:Code}{i:Nat}:Tn P cx b Q (.exit i) st=Q (.exit i) st:=(rfl)
@[simp]theorem ajE{b:Code}:Tn P cx b Q .ret st=Q .ret st:=(rfl)
@[simp]theorem ajF{i:Nat}:Tp i Q .normal st=Q .normal st:=(rfl)
@[simp]theorem ajG{i j:Nat}:Tp i Q (.exit j) st=if j=i then Q .normal st else Q (.exit j) st:=(rfl)
@[simp]theorem ajH{i:Nat}:Tp i Q .ret st=Q .ret st:=(rfl)
@[simp]theorem ahp:norm Q st=Q .normal st:=(rfl)
@[simp]theorem ahq{ops:Array Oper}:z7 P cx ops K [] st=K st:=(rfl)
@[simp]theorem ahr{ops:Array Oper}{i:Nat}:CW P cx m ops K i [] st=K st:=(rfl)
@[simp]theorem aeF{ops:Array Oper}{d:Option Tmp}{op:Op}{ty:TypeId}{pos:String}{after:Array Edge}{rest:List Oper}:z7 P cx ops K (⟨d,op,ty,pos,after,none⟩::rest) ⟨sl,tb⟩=kP P (cx.uB d) op (bE sl) tb (Yj P cx ops K rest sl d):=(rfl)
@[simp]theorem aeG{ops:Array Oper}{d:Option Tmp}{op:Op}{ty:TypeId}{pos:String}{after:Array Edge}{rest:List Oper}{i:Nat}:CW P cx m ops K i (⟨d,op,ty,pos,after,none⟩::rest) ⟨sl,tb⟩=CX P cx (cx.uB d) op (bE sl) tb (Yl P cx m ops K i rest sl d) (eV m i):=(rfl)
def zx(ops:List Oper)(j:Nat):Option Tmp:=(ops[j]?).bind (·.dst)
def gdG(a b:Prop):Option Bool->Prop
 |some true=>a
 |some false=>b
 |none=>False
def Tq(P:Program)(cx:Cx)(ops:Array Oper)(K:AS->Prop)(rest:List Oper)(sl:Nat->AV)(tb:Tb)(d:Option Tmp)(op:Op)(want:Bool)(x:AV):Prop:=gdG (kP P (cx.uB d) op (bE sl) tb (Yj P cx ops K rest sl d)) (z7 P cx ops K rest ⟨eL sl d (.agg true []),tb⟩) (sK want x)
def Vd(P:Program)(cx:Cx)(m:List (Nat×Cls))(ops:Array Oper)(K:AS->Prop)(i:Nat)(rest:List Oper)(sl:Nat->AV)(tb:Tb)(d:Option Tmp)(op:Op)(want:Bool)(x:AV):Prop:=gdG (CX P cx (cx.uB d) op (bE sl) tb (Yl P cx m ops K i rest sl d) (eV m i)) (CW P cx m ops K (i+1) rest ⟨eL sl d (.agg true []),tb⟩) (sK want x)
def slot(sl:Nat->AV):Option Tmp->AV
 |some d=>sl d
 |none=> .any
@[simp]theorem aaH{l:List Oper}{d:Option Tmp}{op:Op}{ty:TypeId}{pos:String}{after:Array Edge}{rest:List Oper}{j:Nat}{want:Bool}:z7 P cx l.toArray K (⟨d,op,ty,pos,after,some (j,want)⟩::rest) ⟨sl,tb⟩=Tq P cx l.toArray K rest sl tb d op want (slot sl (zx l j)):=by
 simp only[z7,iK,zx,List.getElem?_toArray];generalize(l[j]?).bind (·.dst)=s;cases s with
 |none=>rfl
 |some t=>
  simp only[slot];generalize sl t=v;unfold Tq;cases sK want v with
  |none=>rfl
  |some b=>cases b<;>rfl
@[simp]theorem aaI{l:List Oper}{d:Option Tmp}{op:Op}{ty:TypeId}{pos:String}{after:Array Edge}{rest:List Oper}{j:Nat}{want:Bool}{i:Nat}:CW P cx m l.toArray K i (⟨d,op,ty,pos,after,some (j,want)⟩::rest) ⟨sl,tb⟩=Vd P cx m l.toArray K i rest sl tb d op want (slot sl (zx l j)):=by
 simp only[CW,iK,zx,List.getElem?_toArray];generalize(l[j]?).bind (·.dst)=s;cases s with
 |none=>rfl
 |some t=>
  simp only[slot];generalize sl t=v;unfold Vd;cases sK want v with
  |none=>rfl
  |some b=>cases b<;>rfl
section
variable{ops:Array Oper}{rest:List Oper}{d:Option Tmp}{op:Op}{want:Bool}{i:Nat}
@[congr]theorem aaJ{x y:AV}(h:x=y):Tq P cx ops K rest sl tb d op want x=Tq P cx ops K rest sl tb d op want y:=by rw[h]
@[congr]theorem aaK{x y:AV}(h:x=y):Vd P cx m ops K i rest sl tb d op want x=Vd P cx m ops K i rest sl tb d op want y:=by rw[h]
@[simp]theorem ajI:Tq P cx ops K rest sl tb d op true (.p (.sc (.bool true)))=kP P (cx.uB d) op (bE sl) tb (Yj P cx ops K rest sl d):=(rfl)
@[simp]theorem ajJ:Tq P cx ops K rest sl tb d op false (.p (.sc (.bool false)))=kP P (cx.uB d) op (bE sl) tb (Yj P cx ops K rest sl d):=(rfl)
@[simp]theorem ajK:Tq P cx ops K rest sl tb d op true (.p (.sc (.bool false)))=z7 P cx ops K rest ⟨eL sl d (.agg true []),tb⟩:=(rfl)
@[simp]theorem ajL:Tq P cx ops K rest sl tb d op false (.p (.sc (.bool true)))=z7 P cx ops K rest ⟨eL sl d (.agg true []),tb⟩:=(rfl)
@[simp]theorem ajM:Vd P cx m ops K i rest sl tb d op true (.p (.sc (.bool true)))=CX P cx (cx.uB d) op (bE sl) tb (Yl P cx m ops K i rest sl d) (eV m i):=(rfl)
@[simp]theorem ajN:Vd P cx m ops K i rest sl tb d op false (.p (.sc (.bool false)))=CX P cx (cx.uB d) op (bE sl) tb (Yl P cx m ops K i rest sl d) (eV m i):=(rfl)
@[simp]theorem ajO:Vd P cx m ops K i rest sl tb d op true (.p (.sc (.bool false)))=CW P cx m ops K (i+1) rest ⟨eL sl d (.agg true []),tb⟩:=(rfl)
@[simp]theorem ajP:Vd P cx m ops K i rest sl tb d op false (.p (.sc (.bool true)))=CW P cx m ops K (i+1) rest ⟨eL sl d (.agg true []),tb⟩:=(rfl)
@[simp]theorem ajQ:Tq P cx ops K rest sl tb d op want (.agg true [])=z7 P cx ops K rest ⟨eL sl d (.agg true []),tb⟩:=(rfl)
@[simp]theorem ajR{x:AV}:Yj P cx ops K rest sl d x tb=z7 P cx ops K rest ⟨eL sl d x,tb⟩:=(rfl)
@[simp]theorem ajS{x:AV}:Yl P cx m ops K i rest sl d x tb=CW P cx m ops K (i+1) rest ⟨eL sl d x,tb⟩:=(rfl)
@[congr]theorem aaL{x y:AV}(h:x=y)(h2:tb=aM):Yj P cx ops K rest sl d x tb=Yj P cx ops K rest sl d y aM:=by rw[h,h2]
@[congr]theorem aaM{x y:AV}(h:x=y)(h2:tb=aM):Yl P cx m ops K i rest sl d x tb=Yl P cx m ops K i rest sl d y aM:=by rw[h,h2]
end
@[simp]theorem Yr{o:Oper}{l:List Oper}:zx (o::l) 0=o.dst:=(rfl)
@[simp]theorem Ys{o:Oper}{l:List Oper}{j:Nat}:zx (o::l) (j+1)=zx l j:=(rfl)
@[simp]theorem aaN{d:Tmp}:slot sl (some d)=sl d:=(rfl)
@[simp]theorem aly{x:AV}:qK kt tb x=kt x tb:=(rfl)
@[congr]theorem aeH{x y:AV}(h:x=y):qK kt tb x=qK kt tb y:=by rw[h]
@[simp]theorem aeI{d:Tmp}{x:AV}:eL sl (some d) x=u9 sl d x:=(rfl)
@[simp]theorem aeJ{x:AV}:eL sl none x=sl:=(rfl)
@[simp]theorem ajT{t:Tmp}:bE sl (.tmp t)=sl t:=(rfl)
@[simp]theorem ahs{f:FuncId}:bE sl (.func f)= .p (.fn (.func f) []):=(rfl)
@[simp]theorem aht{b:Bool}:bE sl (.const (.bool b))= .p (.sc (.bool b)):=(rfl)
@[simp]theorem ajU{c:IntKind}{n:Int}:bE sl (.const (.int c n))= .p (.sc (.int c n)):=(rfl)
@[simp]theorem ajV{s:ByteArray}:bE sl (.const (.string s))= .p (.sc (.string s)):=(rfl)
@[simp]theorem ajW:bE sl (.const (.slice none 0 0))= .p .nil:=(rfl)
@[simp]theorem ajX:bE sl (.const (.pointer none))= .p (.sc (.pointer none)):=(rfl)
@[simp]theorem aeK{f:Nat->AV}{d:Nat}{x:AV}:u9 f d x d=x:=by simp[u9]
@[simp]theorem ajY{f:Nat->AV}{d t:Nat}{x:AV}(h:(t==d)=false):u9 f d x t=f t:=by simp at h;simp[u9,h]
@[simp]theorem ahu{α:Type}{t:Nat}:lk t ([]:List (Nat×α))=none:=(rfl)
@[simp]theorem aeL{α:Type}{t i:Nat}{v:α}{l:List (Nat×α)}:lk t ((i,v)::l)=if t=i then some v else lk t l:=(rfl)
@[simp]theorem aeM{α:Type}{t:Nat}:del t ([]:List (Nat×α))=[]:=(rfl)
@[simp]theorem aaO{α:Type}{t i:Nat}{v:α}{l:List (Nat×α)}:del t ((i,v)::l)=if t=i then del t l else(i,v)::del t l:=(rfl)
@[simp]theorem Ve{α:Type}{l:List (Nat×α)}:b_ [] l=l:=(rfl)
@[simp]theorem Ts{α:Type}{i:Nat}{v:α}{s l:List (Nat×α)}:b_ ((i,v)::s) l=del i (b_ s l):=(rfl)
@[simp]theorem aeN{bx:List (Nat×Ob)}{rw:List (Nat×TypeId×Nat)}{nx:Nat}{o:Ob}:Tb.aS ⟨bx,rw,nx⟩ o=⟨(nx,o)::bx,rw,nx+1⟩:=(rfl)
@[simp]theorem aeO{bx:List (Nat×Ob)}{rw:List (Nat×TypeId×Nat)}{nx id:Nat}:Tb.cD ⟨bx,rw,nx⟩ id=⟨del id bx,rw,nx⟩:=(rfl)
@[simp]theorem aeP{bx:List (Nat×Ob)}{rw:List (Nat×TypeId×Nat)}{nx:Nat}{e:TypeId}{s:Nat}:Tb.bU ⟨bx,rw,nx⟩ e s=⟨bx,(nx,e,s)::rw,nx+1⟩:=(rfl)
@[simp]theorem aeQ{bx:List (Nat×Ob)}{rw:List (Nat×TypeId×Nat)}{nx id:Nat}{o:Ob}:Tb.aP ⟨bx,rw,nx⟩ id o=⟨(id,o)::del id bx,rw,nx⟩:=(rfl)
@[simp]theorem Yt{bx:List (Nat×Ob)}{rw:List (Nat×TypeId×Nat)}{nx:Nat}{e:TypeId}{s:Nat}:pL ⟨bx,rw,nx⟩ none e s=⟨bx,(nx,e,s)::rw,nx+1⟩:=(rfl)
@[simp]theorem Yu{bx:List (Nat×Ob)}{rw:List (Nat×TypeId×Nat)}{nx id:Nat}{e:TypeId}{s:Nat}:pL ⟨bx,rw,nx⟩ (some id) e s=⟨bx,(nx,e,s)::del id rw,nx+1⟩:=(rfl)
@[simp]theorem aeR{bx bx1 bx2:List (Nat×Ob)}{rw rw1 rw2:List (Nat×TypeId×Nat)}{nx nx1 nx2:Nat}:Tb.merge ⟨bx,rw,nx⟩ ⟨bx1,rw1,nx1⟩ ⟨bx2,rw2,nx2⟩=⟨bx2++b_ bx1 bx,rw2++b_ rw1 rw,nx2⟩:=(rfl)
@[simp]theorem aaP{α:Type}{l:List (Nat×α)}:ay l []=True:=(rfl)
@[simp]theorem Yv{α:Type}{l s:List (Nat×α)}{i:Nat}{v:α}:ay l ((i,v)::s)=(lk i l=some v/\ay l s):=(rfl)
@[simp]theorem aaQ{md:List Nat}{cls:List (Nat×List (Nat×Cls))}{lab:List (Nat×Nat)}{fC:Nat}{ot:List (Nat×OT)}{d:Tmp}:Cx.uB ⟨md,cls,lab,fC,ot⟩ (some d)=md.contains d:=(rfl)
@[simp]theorem aaR:Cx.uB cx none=false:=(rfl)
def Tt:Option (List (Nat×Cls))->List (Nat×Cls)
 |some l=>l
 |none=>[]
def Tv:Option Cls->Cls
 |some c=>c
 |none=> .q
@[simp]theorem ajZ{md:List Nat}{cls:List (Nat×List (Nat×Cls))}{lab:List (Nat×Nat)}{fC:Nat}{ot:List (Nat×OT)}{d:Nat}:Cx.m ⟨md,cls,lab,fC,ot⟩ d=Tt (lk d cls):=by
 unfold Cx.m mOf Tt;cases lk d cls<;>rfl
@[simp]theorem aaS{l:List (Nat×Cls)}:Tt (some l)=l:=(rfl)
@[simp]theorem aaT:Tt none=[]:=(rfl)
@[simp]theorem aeS{l:List (Nat×Cls)}{i:Nat}:eV l i=Tv (lk i l):=by
 unfold eV Tv;cases lk i l<;>rfl
@[simp]theorem aaU{c:Cls}:Tv (some c)=c:=(rfl)
@[simp]theorem aaV:Tv none= .q:=(rfl)
def lbG:Option Nat->Nat
 |some c=>c
 |none=>0
@[simp]theorem alz{md:List Nat}{cls:List (Nat×List (Nat×Cls))}{lab:List (Nat×Nat)}{fC:Nat}{ot:List (Nat×OT)}{l:Nat}:Cx.lb ⟨md,cls,lab,fC,ot⟩ l=lbG (lk l lab):=by
 unfold Cx.lb lbG;cases lk l lab<;>rfl
@[simp]theorem aeT{c:Nat}:lbG (some c)=c:=(rfl)
def nmG(t:Bool)(xs:List AV):Option (List PC)->AV
 |some ys=> .p (.agg t ys)
 |none=> .agg t xs
def ES:Option PC->Option (List PC)->Option (List PC)
 |some x,some l=>some (x::l)
 |_,_=>none
def pcG(t:Bool):Option (List PC)->Option PC
 |some ys=>some (.agg t ys)
 |none=>none
@[simp]theorem al3{x:PC}:AV.pc (.p x)=some x:=(rfl)
@[simp]theorem aj0{i:Nat}{xs:List PC}:AV.pc (.own i xs)=some (.sl xs):=(rfl)
@[simp]theorem ahv{xs:List PC}:AV.pc (.full xs)=some (.sl xs):=(rfl)
@[simp]theorem ahw{i o n s:Nat}{c:Option Nat}:AV.pc (.view i o n s c)=none:=(rfl)
@[simp]theorem Yw{t:Bool}{xs:List AV}:AV.pc (.agg t xs)=pcG t (AV.pc.ga xs):=by
 simp only[AV.pc,pcG];cases AV.pc.ga xs<;>rfl
@[simp]theorem ahx:AV.pc.ga []=some []:=(rfl)
@[simp]theorem aeU{x:AV}{l:List AV}:AV.pc.ga (x::l)=ES x.pc (AV.pc.ga l):=by
 simp only[AV.pc.ga];cases x.pc<;>cases AV.pc.ga l<;>rfl
@[simp]theorem ahy{l:List PC}:AV.pc.ga (l.map .p)=some l:=by
 induction l with
 |nil=>rfl
 |cons x l ih=>simp[ih,ES]
@[simp]theorem Yx{x:PC}{l:List PC}:ES (some x) (some l)=some (x::l):=(rfl)
@[simp]theorem Yy{l:Option (List PC)}:ES none l=none:=by cases l<;>rfl
@[simp]theorem Vf{x:Option PC}:ES x none=none:=by cases x<;>rfl
@[simp]theorem aeV{t:Bool}{l:List PC}:pcG t (some l)=some (.agg t l):=(rfl)
@[simp]theorem al4{x:PC}:AV.nm (.p x)= .p x:=(rfl)
@[simp]theorem aj1{i:Nat}{xs:List PC}:AV.nm (.own i xs)= .p (.sl xs):=(rfl)
@[simp]theorem ahz{xs:List PC}:AV.nm (.full xs)= .p (.sl xs):=(rfl)
@[simp]theorem aj2{i o:Nat}:AV.nm (.obj i o)= .obj i o:=(rfl)
@[simp]theorem ahA{i o n s:Nat}{c:Option Nat}:AV.nm (.view i o n s c)= .view i o n s c:=(rfl)
@[simp]theorem aj3{t:Bool}{xs:List AV}:AV.nm (.agg t xs)=nmG t xs (AV.pc.ga xs):=by
 simp only[AV.nm,Yw];cases AV.pc.ga xs<;>rfl
@[simp]theorem aeW{t:Bool}{xs:List AV}{ys:List PC}:nmG t xs (some ys)= .p (.agg t ys):=(rfl)
@[simp]theorem aeX{t:Bool}{xs:List AV}:nmG t xs none= .agg t xs:=(rfl)
variable{e:Operand->AV}{md:Bool}
@[simp]theorem aj4{x:Operand}:kP P md (.move x) e tb kt=h_ P (.move x) e (qK kt tb):=(rfl)
@[simp]theorem aeY{x:Operand}:kP P md (.assign x) e tb kt=h_ P (.assign x) e (qK kt tb):=(rfl)
@[simp]theorem aj5{c a b:Operand}:kP P md (.pick c a b) e tb kt=h_ P (.pick c a b) e (qK kt tb):=(rfl)
@[simp]theorem Vg{t:TypeId}{x:Operand}{i:Nat}:kP P md (.fieldAddr t x i) e tb kt=h_ P (.fieldAddr t x i) e (qK kt tb):=(rfl)
@[simp]theorem Vh{t:TypeId}{x i:Operand}:kP P md (.indexAddr t x i) e tb kt=h_ P (.indexAddr t x i) e (qK kt tb):=(rfl)
@[simp]theorem ahB{t:TypeId}{x i:Operand}:kP P md (.index t x i) e tb kt=h_ P (.index t x i) e (qK kt tb):=(rfl)
@[simp]theorem aeZ{t:TypeId}{x:Operand}:kP P md (.slice t x none none none) e tb kt=slT P t tb kt (h_ P (.slice t x none none none) e (qK kt tb)) (e x):=(rfl)
@[simp]theorem ae0{t:TypeId}{x lo:Operand}{hi mx:Option Operand}:kP P md (.slice t x (some lo) hi mx) e tb kt=h_ P (.slice t x (some lo) hi mx) e (qK kt tb):=(rfl)
@[simp]theorem ae1{t:TypeId}{x hi:Operand}:kP P md (.slice t x none (some hi) none) e tb kt=h_ P (.slice t x none (some hi) none) e (qK kt tb):=(rfl)
@[simp]theorem aaW{t:TypeId}{x hi mx:Operand}:kP P true (.slice t x none (some hi) (some mx)) e tb kt=Bo P t tb kt (e hi).nm (e mx).nm (e x):=(rfl)
@[congr]theorem Vi{t:TypeId}{a a' b b' x x':AV}(h1:a=a')(h2:b=b')(h3:x=x'):Bo P t tb kt a b x=Bo P t tb kt a' b' x':=by rw[h1,h2,h3]
@[simp]theorem ahC{t:TypeId}{k1 k2:IntKind}{h m:Int}{id f n s:Nat}{c:Option Nat}:Bo P t tb kt (.p (.sc (.int k1 h))) (.p (.sc (.int k2 m))) (.view id f n s c)=(aH P t=some s/\f=0/\h=(n:Int)/\m=(n:Int)/\clO tb kt id n s (lk id tb.bx)):=(rfl)
@[congr]theorem aaX{id n s:Nat}{y y':Option Ob}(h:y=y'):clO tb kt id n s y=clO tb kt id n s y':=by rw[h]
@[simp]theorem ae2{id n s:Nat}{ob:Ob}:clO tb kt id n s (some ob)=(ob.sz=s/\kt (.view tb.nx 0 n s (some n)) ((tb.cD id).aS ⟨ob.el,ob.sz,ob.xs.take (n*s)⟩)):=(rfl)
@[simp]theorem ahD{t:TypeId}{i o:Nat}{q:Prop}:slT P t tb kt q (.obj i o)=(o=0/\slO tb kt i (lk i tb.bx) (ic P t)):=(rfl)
@[simp]theorem ae3{i m s:Nat}{ob:Ob}{ag:Bool}:slO tb kt i (some ob) (some (m,s,ag))=(s=1/\slC tb kt i m ob.sz (dV ob.xs)):=(rfl)
@[simp]theorem ae4{i m sz:Nat}{zs:List PC}:slC tb kt i m sz (some zs)=(sz=m/\zs.length=m/\0<m/\m<=maxLen/\kt (.full zs) ⟨del i tb.bx,tb.rw,tb.nx+1⟩):=(rfl)
@[simp]theorem ae5{zs:List PC}:dV (zs.map .p)=some zs:=by induction zs with
 |nil=>rfl
 |cons z l ih=>simp[dV,ih]
@[simp]theorem ahE{op:BinOp}{t t2:TypeId}{x y:Operand}:kP P md (.binOp op t x y t2) e tb kt=h_ P (.binOp op t x y t2) e (qK kt tb):=(rfl)
@[simp]theorem aj6{op:UnOp}{t:TypeId}{x:Operand}:kP P md (.unOp op t x) e tb kt=h_ P (.unOp op t x) e (qK kt tb):=(rfl)
@[simp]theorem aaY{s d:TypeId}{x:Operand}:kP P md (.convert s d x) e tb kt=oG P md s d tb kt (e x):=(rfl)
@[simp]theorem ahF{s d:TypeId}{x:PC}:oG P false s d tb kt (.p x)=oh P s d (qK kt tb) (.p x):=(rfl)
@[simp]theorem aaZ{s d:TypeId}{i:Nat}{xs:List PC}:oG P false s d tb kt (.own i xs)=oh P s d (qK kt tb) (AV.own i xs).nm:=(rfl)
@[simp]theorem Yz{s d:TypeId}{xs:List PC}:oG P false s d tb kt (.full xs)=oh P s d (qK kt tb) (AV.full xs).nm:=(rfl)
@[simp]theorem YA{s d:TypeId}{id f n z:Nat}{m:Option Nat}(h:isStr P d=true):oG P md s d tb kt (.view id f n z m)=cvV P s d tb kt (.view id f n z m):=by simp only[oG,h,if_true]
@[simp]theorem Vj{s d:TypeId}{id f n z:Nat}{m:Option Nat}(h:isStr P d=false):oG P md s d tb kt (.view id f n z m)=YB P s d tb kt (.view id f n z m) id n (lk id tb.bx):=by simp only[oG,h,Bool.false_eq_true,if_false]
@[congr]theorem aa0{s d:TypeId}{x:AV}{id n:Nat}{y y':Option Ob}(h:y=y'):YB P s d tb kt x id n y=YB P s d tb kt x id n y':=by rw[h]
@[simp]theorem ae6{d:TypeId}{x:AV}{id n:Nat}{ob:Ob}(h:dR P d=true):YB P d d tb kt x id n (some ob)=(ob.el<1000000/\0<ob.xs.length/\0<n/\kt x (tb.aP id {ob with el:=ob.el+1000000})):=by simp only[YB,h,true_and]
@[simp]theorem aa1{s d:TypeId}{b:ByteArray}:oG P true s d tb kt (.p (.sc (.string b)))=YC P s d tb kt b (cU P d):=(rfl)
@[congr]theorem Vk{s d:TypeId}{x x':AV}(h:x=x'):oG P md s d tb kt x=oG P md s d tb kt x':=by rw[h]
@[congr]theorem aa2{s d:TypeId}{b:ByteArray}{x x':Option (TypeId×Nat×Nat)}(h:x=x'):YC P s d tb kt b x=YC P s d tb kt b x':=by rw[h]
@[simp]theorem ae7{s d:TypeId}{b:ByteArray}{z:TypeId×Nat×Nat}(h1:isStr P s=true)(h2:dR P d=true)(h3:z.2.1=1):YC P s d tb kt b (some z)=((bs b).length<=9223372036854775807/\kt (.view tb.nx 0 (bs b).length 1 none) (tb.aS ⟨z.1+1000000,1,(af (bs b)).map .p⟩)):=by
 obtain⟨z1,z2,z3⟩:=z;simp only at h3;simp[YC,h1,h2,h3]
theorem UE{s d:TypeId}{x:AV}(l:List UInt8)(h1:dR P s=true)(h2:isStr P d=true)(h3:cQ tb.bx 1 x (.sl (af l)))(hk:kt (.p (.str l)) tb):cvV P s d tb kt x:=⟨h1,h2,l,h3,hk⟩
@[simp]theorem LI{t:TypeId}{x:Operand}:kP P md (.makeInterface t x) e tb kt=h_ P (.makeInterface t x) e (qK kt tb):=(rfl)
@[simp]theorem YD{f:Fn}{fs cs:Array Operand}:kP P md (.makeFunc f fs cs) e tb kt=h_ P (.makeFunc f fs cs) e (qK kt tb):=(rfl)
@[simp]theorem aa3{x:Operand}{i:Nat}:kP P md (.extract x i) e tb kt=h_ P (.extract x i) e (qK kt tb):=(rfl)
@[simp]theorem YE{x:Operand}:kP P md (.nilCheck x) e tb kt=h_ P (.nilCheck x) e (qK kt tb):=(rfl)
@[simp]theorem ahG{t:TypeId}{ps:Array (Nat×Operand)}:kP P md (.build t ps) e tb kt=h_ P (.build t ps) e (qK kt tb):=(rfl)
@[simp]theorem Tw{t:TypeId}{n:Nat}{l:List (Nat×Operand)}:kP P false (.buildSlice t n l.toArray) e tb kt=Pb P t n tb kt (zc P t n (qK kt tb) (l.map fun p=>(p.1,e p.2))) (l.map fun p=>(p.1,e p.2)) (dV ((l.map fun p=>(p.1,e p.2)).map fun p=>p.2.nm)):=(rfl)
@[simp]theorem aa4{t:TypeId}{n:Nat}{q:Prop}{ps:List (Nat×AV)}{ys:List PC}:Pb P t n tb kt q ps (some ys)=q:=(rfl)
@[simp]theorem aa5{t:TypeId}{n:Nat}{q:Prop}{ps:List (Nat×AV)}:Pb P t n tb kt q ps none=vE n tb kt ps (cU P t):=(rfl)
@[congr]theorem Tx{n:Nat}{ps ps':List (Nat×AV)}{o o':Option (TypeId×Nat×Nat)}(h:ps=ps')(h2:o=o'):vE n tb kt ps o=vE n tb kt ps' o':=by rw[h,h2]
theorem Ce{n:Nat}{ps:List (Nat×AV)}{e0:TypeId}{sz bT:Nat}(ys:List PC)(aM:Tb)(h1:0<sz/\bt 0 ps=true/\ps.length=n/\n*sz<=16777216)(h2:yK tb aM (ps.map (·.2)) ys)(h3:∀y∈ys,y.width=sz)(h4:∀y∈ys,cw y=true)(hk:kt (.full ys) aM):vE n tb kt ps (some (e0,sz,bT)):=⟨h1.1,h1.2.1,h1.2.2.1,h1.2.2.2,ys,aM,h2,h3,h4,hk⟩
@[simp]theorem Qz{t:TypeId}{n:Nat}{l:List (Nat×Operand)}:kP P true (.buildSlice t n l.toArray) e tb kt=wP P t n tb kt (l.map fun p=>(p.1,e p.2)) (dV ((l.map fun p=>(p.1,e p.2)).map fun p=>p.2.nm)):=(rfl)
@[simp]theorem aa6{t:TypeId}{n:Nat}{ps:List (Nat×AV)}{ys:List PC}:wP P t n tb kt ps (some ys)=zc P t n (Pc P t n tb kt) ps:=(rfl)
@[simp]theorem aa7{t:TypeId}{n:Nat}{ps:List (Nat×AV)}:wP P t n tb kt ps none=KI t n tb kt ps (cU P t):=(rfl)
@[simp]theorem aa8{t e':TypeId}{n sz bT:Nat}{ps:List (Nat×AV)}:KI t n tb kt ps (some (e',sz,bT))=(0<sz/\bt 0 ps=true/\ps.length=n/\n*sz<=16777216/\KJ e' sz n tb kt (nc sz (ps.map (·.2)))):=(rfl)
@[simp]theorem aa9{e':TypeId}{n sz:Nat}{zs:List AV}:KJ e' sz n tb kt (some zs)=kt (.view tb.nx 0 n sz (some n)) (tb.aS ⟨e',sz,zs⟩):=(rfl)
@[simp]theorem YF{sz:Nat}:nc sz []=some []:=(rfl)
@[simp]theorem Vl{sz:Nat}{x:AV}{l:List AV}:nc sz (x::l)=vt sz x.cR (nc sz l):=(rfl)
@[simp]theorem Vm{sz:Nat}{zs r:List AV}:vt sz (some zs) (some r)=if zs.length=sz then some (zs++r)else none:=(rfl)
def Pd(n:Nat)(ys:List PC)(tb:Tb)(kt:AV->Tb->Prop):Option (TypeId×Nat×Nat)->Prop
 |some (e,sz,_)=>kt (.view tb.nx 0 n sz (some n)) (tb.aS ⟨e,sz,ys.flatMap aU⟩)
 |none=>False
@[congr]theorem Vn{n:Nat}{ys:List PC}{x y:Option (TypeId×Nat×Nat)}(h:x=y):Pd n ys tb kt x=Pd n ys tb kt y:=by rw[h]
@[simp]theorem YG{n:Nat}{ys:List PC}{z:TypeId×Nat×Nat}:Pd n ys tb kt (some z)=kt (.view tb.nx 0 n z.2.1 (some n)) (tb.aS ⟨z.1,z.2.1,ys.flatMap aU⟩):=(rfl)
@[simp]theorem aa_{t:TypeId}{n:Nat}{ys:List PC}:Pc P t n tb kt (.full ys)=Pd n ys tb kt (cU P t):=by
 unfold Pc Pd;generalize cU P t=z;cases z<;>rfl
@[simp]theorem aj7{t:TypeId}{x:Operand}:kP P false (.box t x) e tb kt=h_ P (.box t x) e (qK kt tb):=(rfl)
@[simp]theorem aj8{t:TypeId}{x:Operand}:kP P true (.box t x) e tb kt=GU P t tb kt (e x):=(rfl)
@[simp]theorem ae8{t:TypeId}:kP P md (.alloc t) e tb kt=zy P tb kt (bG P t) t:=(rfl)
@[simp]theorem ahH{t:TypeId}{x:Operand}:kP P md (.load t x) e tb kt=loadT P t tb kt (e x):=(rfl)
@[simp]theorem ae9{t:TypeId}{x y:Operand}:kP P md (.store t x y) e tb kt=storeT P t tb kt (e x) (e y):=(rfl)
@[simp]theorem alA{x y:Operand}{t u:TypeId}:kP P md (.call ⟨.builtin .append,#[x,y],#[t,u]⟩) e tb kt=ET P md u tb kt (cU P t) (e x) (e y):=by simp[kP]
@[simp]theorem aj9{x y:Operand}{t u:TypeId}:kP P md (.call ⟨.builtin .copy,#[x,y],#[t,u]⟩) e tb kt=cpT tb kt (aH P t) (e x) (e y):=by simp[kP]
@[simp]theorem ahI{x:Operand}{t:TypeId}:kP P md (.call ⟨.builtin .clear,#[x],#[t]⟩) e tb kt=YH P tb kt (e x) (cU P t):=by simp[kP]
@[simp]theorem Vo{t:TypeId}{x y:Operand}:kP P false (.makeSlice t x y) e tb kt=mkT P tb kt (e x).nm (e y).nm (cU P t):=(rfl)
@[simp]theorem Tz{t:TypeId}{x y:Operand}:kP P true (.makeSlice t x y) e tb kt=mkP P tb kt (e x).nm (e y).nm (cU P t):=(rfl)
@[congr]theorem aa'{z z':Option (TypeId×Nat×Nat)}{x x' y y':AV}(h:x=x')(h2:y=y')(h3:z=z'):mkP P tb kt x y z=mkP P tb kt x' y' z':=by rw[h,h2,h3]
@[congr]theorem YI{n c:Int}{bT s:Nat}{z z':Option (List PC)}(h3:z=z'):KL tb kt n c bT s z=KL tb kt n c bT s z':=by rw[h3]
@[simp]theorem ae_{e0:TypeId}{k1 k2:IntKind}{n c:Int}{s bT:Nat}:mkP P tb kt (.p (.sc (.int k1 n))) (.p (.sc (.int k2 c))) (some (e0,s,bT))=KL tb kt n c bT s (bG P e0):=(rfl)
@[simp]theorem abb{u:Value}{n c:Int}{s bT:Nat}:KL tb kt n c bT s (some [.sc u])=(s=1/\0<=n/\n=c/\bT*n.toNat<=281474976710656/\n.toNat<=maxLen/\kt (.p (.sl (List.replicate n.toNat (.sc u)))) ⟨tb.bx,tb.rw,tb.nx+2⟩):=(rfl)
@[congr]theorem YJ{md md':Bool}{u:TypeId}{z z':Option (TypeId×Nat×Nat)}{x x' y y':AV}(h0:md=md')(h3:z=z')(h:x=x')(h2:y=y'):ET P md u tb kt z x y=ET P md' u tb kt z' x' y':=by rw[h0,h,h2,h3]
@[congr]theorem abd{z z':Option Nat}{x x' y y':AV}(h3:z=z')(h:x=x')(h2:y=y'):cpT tb kt z x y=cpT tb kt z' x' y':=by rw[h,h2,h3]
@[congr]theorem abe{z z':Option (TypeId×Nat×Nat)}{x x':AV}(h:x=x')(h3:z=z'):YH P tb kt x z=YH P tb kt x' z':=by rw[h,h3]
@[congr]theorem abf{z z':Option (TypeId×Nat×Nat)}{x x' y y':AV}(h:x=x')(h2:y=y')(h3:z=z'):mkT P tb kt x y z=mkT P tb kt x' y' z':=by rw[h,h2,h3]
@[simp]theorem aj_{u:TypeId}{z:Option (TypeId×Nat×Nat)}{x y:AV}(h:isNone x):ET P true u tb kt z x y=Pe P u tb kt x y z:=by
 unfold isNone at h;split at h
 ·rfl
 ·rfl
 ·exact h.elim
@[simp]theorem ae'{u:TypeId}{z:Option (TypeId×Nat×Nat)}{i:Nat}{x:List PC}{y:AV}:ET P false u tb kt z (.own i x) y=Aq P u tb kt (.own i x) y.nm z:=(rfl)
@[simp]theorem abg{md:Bool}{u:TypeId}{z:Option (TypeId×Nat×Nat)}{id f n s:Nat}{m:Option Nat}{y:AV}:ET P md u tb kt z (.view id f n s m) y=TA P u tb kt id f n s m y z:=(rfl)
@[simp]theorem Vp:isNone (.full [])=True:=(rfl)
@[simp]theorem YK:isNone (.p .nil)=True:=(rfl)
section
variable{u e:TypeId}{id f n s bT s':Nat}{m:Option Nat}{y y':AV}{ob:Ob}
@[simp]theorem abh:TA P u tb kt id f n s m y (some (e,s',bT))=(s'=s/\GV P u tb kt id f n s m bT e y (Av.intOf P u) (lk id tb.bx)):=(rfl)
@[congr]theorem YL{a a':Option IntKind}{b b':Option Ob}(h:y=y')(h1:a=a')(h2:b=b'):GV P u tb kt id f n s m bT e y a b=GV P u tb kt id f n s m bT e y' a' b':=by rw[h,h1,h2]
@[simp]theorem aj':GV P u tb kt id f n s m bT e y none (some ob)=(ob.sz=s/\(f+n)*s<=ob.xs.length/\Pf P u tb kt id f n s bT e ob y m):=(rfl)
@[simp]theorem aka{k:IntKind}:GV P u tb kt id f n s m bT e y (some k) (some ob)=((f+n)*s<=ob.xs.length/\GX P tb kt id f n s bT e ob m y.nm (bG P e)):=(rfl)
@[simp]theorem akb{m:Nat}:Pf P u tb kt id f n s bT e ob y (some m)=pW P tb u s (Pg tb kt id f n s m bT e ob) y:=(rfl)
@[simp]theorem akc:Pf P u tb kt id f n s bT e ob y none=pW P tb u s (Ph tb kt id f n s bT e ob) y:=(rfl)
@[congr]theorem YM{z z':Option (List PC)}(h:y=y')(h2:z=z'):GX P tb kt id f n s bT e ob m y z=GX P tb kt id f n s bT e ob m y' z':=by rw[h,h2]
@[simp]theorem akd{k:IntKind}{j:Int}{z:List PC}:GX P tb kt id f n s bT e ob none (.p (.sc (.int k j))) (some z)=(f=0/\ob.sz=s/\ob.el=e/\0<s/\0<j/\(n+j.toNat)*bT<=140737488355328/\n+j.toNat<=9223372036854775807/\kt (.view tb.nx 0 (n+j.toNat) s none) ((tb.cD id).aS ⟨e,s,ob.xs.take (n*s)++(fW j.toNat z).map .p⟩)):=(rfl)
@[simp]theorem ake{m:Nat}{k:IntKind}{j:Int}{z:List PC}:GX P tb kt id f n s bT e ob (some m) (.p (.sc (.int k j))) (some z)=(0<s/\0<j/\m-f<n+j.toNat/\(n+j.toNat)*bT<=140737488355328/\n+j.toNat<=9223372036854775807/\kt (.view tb.nx 0 (n+j.toNat) s none) (tb.aS ⟨e,s,(ob.xs.drop (f*s)).take (n*s)++(fW j.toNat z).map .p⟩)):=(rfl)
variable{kz:Nat->List AV->Prop}{j:Nat}{zs:List AV}
@[simp]theorem afa{m:Nat}:Pg tb kt id f n s m bT e ob j zs=((f+n+j<=m/\kt (.view id f (n+j) s (some m)) (tb.aP id {ob with xs:=ob.xs.take ((f+n)*s)++zs++ob.xs.drop ((f+n)*s+j*s)}))\/(m-f<n+j/\(n+j)*bT<=140737488355328/\n+j<=9223372036854775807/\kt (.view tb.nx 0 (n+j) s none) (tb.aS ⟨e,s,(ob.xs.drop (f*s)).take (n*s)++zs⟩))):=(rfl)
@[simp]theorem afb:Ph tb kt id f n s bT e ob j zs=(f=0/\ob.el=e/\(n+j)*bT<=140737488355328/\n+j<=9223372036854775807/\kt (.view tb.nx 0 (n+j) s none) ((tb.cD id).aS ⟨e,s,ob.xs.take (n*s)++zs⟩)):=(rfl)
@[simp]theorem afc:Pj tb kt s bT e j zs=(j*bT<=140737488355328/\j<=9223372036854775807/\kt (.view tb.nx 0 j s none) (tb.aS ⟨e,s,zs⟩)):=(rfl)
def EU(n f s:Nat)(kz:Nat->List AV->Prop):Option Ob->Prop
 |some ob=>(f+n)*s<=ob.xs.length/\kz n ((ob.xs.drop (f*s)).take (n*s))
 |none=>False
@[congr]theorem Vq{a b:Option Ob}(h:a=b):EU n f s kz a=EU n f s kz b:=by rw[h]
@[simp]theorem YN:EU n f s kz (some ob)=((f+n)*s<=ob.xs.length/\kz n ((ob.xs.drop (f*s)).take (n*s))):=(rfl)
@[simp]theorem abj(h:(aH P u).isSome=true):pW P tb u s kz (.view id f n s' m)=(s'=s/\EU n f s kz (lk id tb.bx)):=by
 simp only[pW,EU,h,true_and];cases lk id tb.bx<;>rfl
@[simp]theorem ahJ{ys:List PC}(h:(aH P u).isSome=true):pW P tb u s kz (.p (.sl ys))=((∀y∈ys,y.width=s)/\(∀y∈ys,cw y=true)/\kz ys.length (ys.flatMap aU)):=by simp[pW,h]
@[simp]theorem abk{ys:List PC}:pW P tb u s kz (.full ys)=pW P tb u s kz (.p (.sl ys)):=(rfl)
@[simp]theorem ahK{ys:List PC}:pW P tb u s kz (.nn ys)=pW P tb u s kz (.p (.sl ys)):=(rfl)
@[simp]theorem afd{b:ByteArray}(h:isStr P u=true):pW P tb u s kz (.p (.sc (.string b)))=(s=1/\kz (bs b).length ((af (bs b)).map .p)):=by simp[pW,h]
@[simp]theorem abl{x:AV}(h:isNone x):Pe P u tb kt x y (some (e,s,bT))=zA P u tb kt s bT e y (Av.intOf P u):=by simp[Pe,h]
@[congr]theorem Vr{a a':Option IntKind}(h:y=y')(h1:a=a'):zA P u tb kt s bT e y a=zA P u tb kt s bT e y' a':=by rw[h,h1]
@[simp]theorem ahL:zA P u tb kt s bT e y none=pW P tb u s (Pj tb kt s bT e) y:=(rfl)
@[simp]theorem ahM{k:IntKind}:zA P u tb kt s bT e y (some k)=Bp tb kt s bT e y.nm (bG P e):=(rfl)
@[congr]theorem Vs{z z':Option (List PC)}(h:y=y')(h2:z=z'):Bp tb kt s bT e y z=Bp tb kt s bT e y' z':=by rw[h,h2]
@[simp]theorem ahN{k:IntKind}{j:Int}{z:List PC}:Bp tb kt s bT e (.p (.sc (.int k j))) (some z)=(0<s/\0<j/\j.toNat*bT<=140737488355328/\j.toNat<=9223372036854775807/\kt (.view tb.nx 0 j.toNat s none) (tb.aS ⟨e,s,(fW j.toNat z).map .p⟩)):=(rfl)
end
@[simp]theorem ahO{f:Operand}{l:List Operand}{ts:Array TypeId}:kP P md (.call ⟨.value f,l.toArray,ts⟩) e tb kt=wQ P (l.map e) tb kt (e f).nm:=by simp[kP]
@[simp]theorem alB{x:Operand}{t:TypeId}:kP P md (.call ⟨.builtin .len,#[x],#[t]⟩) e tb kt=h_ P (.call ⟨.builtin .len,#[x],#[t]⟩) e (qK kt tb):=(rfl)
@[simp]theorem alC{x:Operand}{t:TypeId}:kP P md (.call ⟨.builtin .cap,#[x],#[t]⟩) e tb kt=h_ P (.call ⟨.builtin .cap,#[x],#[t]⟩) e (qK kt tb):=(rfl)
@[simp]theorem alD{l:Array Operand}{ts:Array TypeId}:kP P md (.call ⟨.builtin .min,l,ts⟩) e tb kt=h_ P (.call ⟨.builtin .min,l,ts⟩) e (qK kt tb):=(rfl)
@[simp]theorem alE{l:Array Operand}{ts:Array TypeId}:kP P md (.call ⟨.builtin .max,l,ts⟩) e tb kt=h_ P (.call ⟨.builtin .max,l,ts⟩) e (qK kt tb):=(rfl)
@[congr]theorem abm{op:Op}{md md':Bool}(h:md=md')(h2:tb=aM):kP P md op e tb kt=kP P md' op e aM kt:=by rw[h,h2]
@[congr]theorem abn{op:Op}{md md':Bool}{c c':Cls}(h:md=md')(h2:tb=aM)(h3:c=c'):CX P cx md op e tb kt c=CX P cx md' op e aM kt c':=by rw[h,h2,h3]
@[congr]theorem abo{op:Op}{k:AV->Prop}{e e':Operand->AV}(h:e=e'):h_ P op e k=h_ P op e' k:=by rw[h]
@[simp]theorem al5{op:Op}:CX P cx md op e tb kt .q=h_ P op e (qK kt tb):=(rfl)
@[simp]theorem al6{t:TypeId}{x:Operand}{l:Nat}:CX P cx md (.load t x) e tb kt (.r l)=Bq P cx l t tb kt (e x):=(rfl)
@[simp]theorem al7{t:TypeId}{x y:Operand}{l:Nat}{kp:List Nat}:CX P cx md (.store t x y) e tb kt (.s l kp)=KM P cx l t tb (zB cx kp tb kt) (e y) (e x):=(rfl)
@[congr]theorem YO{l:Nat}{t:TypeId}{x x' y y':AV}(h:y=y')(h2:x=x'):KM P cx l t tb kt y x=KM P cx l t tb kt y' x':=by rw[h,h2]
@[simp]theorem afe{l:Nat}{t:TypeId}{id off:Nat}{y:AV}:KM P cx l t tb kt y (.obj id off)=(id=cx.lb l/\storeT P t tb kt (.obj id off) y):=(rfl)
@[simp]theorem akf{x y:Operand}{t u:TypeId}{ls:List Nat}:CX P cx md (.call ⟨.builtin .append,#[x,y],#[t,u]⟩) e tb kt (.f ls)=Aq P u tb kt (e x) (e y).nm (cU P t):=by simp[CX]
@[simp]theorem ahP{f:Operand}{l:List Operand}{ts:Array TypeId}{ls:List Nat}:CX P cx md (.call ⟨.value f,l.toArray,ts⟩) e tb kt (.f ls)=vF P cx ls (l.map e) tb kt (e f).nm:=by simp[CX]
@[simp]theorem al8{op:Op}{kp:List Nat}:CX P cx md op e tb kt (.w kp)=kP P md op e tb (zB cx kp tb kt):=(rfl)
@[simp]theorem aff{kp:List Nat}{Pk:Tb}{x:AV}:zB cx kp Pk kt x tb=(keeps cx kp Pk tb/\kt x tb):=(rfl)
@[simp]theorem abp{Pk:Tb}:keeps cx [] Pk tb=True:=by simp[keeps]
@[simp]theorem YP{Pk:Tb}{l:Nat}{kp:List Nat}:keeps cx (l::kp) Pk tb=(lk (cx.lb l) tb.bx=lk (cx.lb l) Pk.bx/\keeps cx kp Pk tb):=by simp[keeps]
@[simp]theorem akg{x:Operand}:h_ P (.move x) e k=k (e x):=(rfl)
@[simp]theorem afg{x:Operand}:h_ P (.assign x) e k=k (e x):=(rfl)
@[simp]theorem akh{c a b:Operand}:h_ P (.pick c a b) e k=tu k (e a) (e b) (e c).nm:=(rfl)
@[simp]theorem alF{t:TypeId}{x:Operand}:h_ P (.box t x) e k=Jp k (e x).nm:=(rfl)
@[simp]theorem aki{t:TypeId}{x:Operand}:h_ P (.load t x) e k=vW P t k (e x).nm:=(rfl)
@[simp]theorem Vt{t:TypeId}{x:Operand}{i:Nat}:h_ P (.fieldAddr t x i) e k=Uu P t i k (e x):=(rfl)
@[simp]theorem ahQ{t:TypeId}{x:Operand}{i:Nat}:h_ P (.field t x i) e k=vr P t i k (e x):=(rfl)
@[simp]theorem Vu{t:TypeId}{x:Tmp}{i:Operand}:h_ P (.indexAddr t (.tmp x) i) e k=Qx P t k (e (.tmp x)) (e i):=(rfl)
@[simp]theorem abq{t:TypeId}{i:Operand}:h_ P (.indexAddr t (.global 0) i) e k=glW P t k (e i).nm:=(rfl)
@[simp]theorem ahR{t:TypeId}{x i:Operand}:h_ P (.index t x i) e k=sw P t k (e x).nm (e i).nm:=(rfl)
@[simp]theorem akj{t:TypeId}{x lo hi mx:Operand}:h_ P (.slice t x (some lo) (some hi) (some mx)) e k=S3 P t k (e lo).nm (e hi).nm (e mx).nm (e x):=(rfl)
@[congr]theorem abr{t:TypeId}{a a' b b' c c' x x':AV}(h1:a=a')(h2:b=b')(h3:c=c')(h4:x=x'):S3 P t k a b c x=S3 P t k a' b' c' x':=by rw[h1,h2,h3,h4]
@[simp]theorem alG{t:TypeId}{id f n s:Nat}{m:Option Nat}{k1 k2 k3:IntKind}{l h c:Int}(ht:(aH P t).isSome=true):S3 P t k (.p (.sc (.int k1 l))) (.p (.sc (.int k2 h))) (.p (.sc (.int k3 c))) (.view id f n s m)=(0<=l/\l<=h/\h<=c/\c<=(n:Int)/\k .any):=by simp[S3,ht]
@[simp]theorem ahS{t:TypeId}{x:Operand}{lo hi:Option Operand}:h_ P (.slice t x lo hi none) e k=z6 P t (lo.map fun y=>(e y).nm) (hi.map fun y=>(e y).nm) k (e x):=(rfl)
@[simp]theorem ahT{op:BinOp}{t t':TypeId}{x y:Operand}:h_ P (.binOp op t x y t') e k=xk P op t k (e x) (e y):=(rfl)
@[simp]theorem akk{op:UnOp}{t:TypeId}{x:Operand}:h_ P (.unOp op t x) e k=tv op k (e x).nm:=(rfl)
@[simp]theorem abt{s d:TypeId}{x:Operand}:h_ P (.convert s d x) e k=oh P s d k (e x).nm:=(rfl)
@[simp]theorem LJ{t:TypeId}{x:Operand}:h_ P (.makeInterface t x) e k=sx P t k (e x):=(rfl)
@[simp]theorem YQ{f:Fn}{cs:List Operand}:h_ P (.makeFunc f #[] cs.toArray) e k=Wm f k (cs.map e) (dV (cs.map fun y=>(e y).nm)):=by simp[h_,Qv,Jo]
@[simp]theorem YR{t:TypeId}{x:Operand}:h_ P (.sliceToArrayPointer t x) e k=saW P t k (e x).nm:=(rfl)
@[simp]theorem abu{f:Fn}{x:Operand}{fs:List Operand}:h_ P (.makeFunc f (x::fs).toArray #[]) e k=k (.mE f ((x::fs).map e)):=by simp[h_,Qv,Jo]
@[simp]theorem abv{x:Operand}{i:Nat}:h_ P (.extract x i) e k=Eg i k (e x):=(rfl)
@[simp]theorem YS{x:Operand}:h_ P (.nilCheck x) e k=Gv k (e x):=(rfl)
@[simp]theorem ahU{t:TypeId}{l:List (Nat×Operand)}:h_ P (.build t l.toArray) e k=sH P t k (l.map fun p=>(p.1,e p.2)):=(rfl)
@[simp]theorem TB{t:TypeId}{n:Nat}{l:List (Nat×Operand)}:h_ P (.buildSlice t n l.toArray) e k=zc P t n k (l.map fun p=>(p.1,e p.2)):=(rfl)
@[simp]theorem alH{x:Operand}{t:TypeId}:h_ P (.call ⟨.builtin .len,#[x],#[t]⟩) e k=Ap P t k (e x):=by simp[h_]
@[simp]theorem alI{x:Operand}{t:TypeId}:h_ P (.call ⟨.builtin .cap,#[x],#[t]⟩) e k=CM P t k (e x):=by simp[h_]
@[simp]theorem alJ{l:List Operand}{ts:Array TypeId}:h_ P (.call ⟨.builtin .min,l.toArray,ts⟩) e k=F0 k (l.map fun y=>(e y).nm):=by simp[h_,Qv,Jo]
@[simp]theorem alK{l:List Operand}{ts:Array TypeId}:h_ P (.call ⟨.builtin .max,l.toArray,ts⟩) e k=F3 k (l.map fun y=>(e y).nm):=by simp[h_,Qv,Jo]
@[simp]theorem ahV{f:Operand}{l:List Operand}{ts:Array TypeId}:h_ P (.call ⟨.value f,l.toArray,ts⟩) e k=uY P k (dV (l.map fun y=>(e y).nm)) (e f).nm:=by simp[h_,Qv,Jo]
@[congr]theorem Vv{x x' y y' c c':AV}(h1:x=x')(h2:y=y')(h3:c=c'):tu k x y c=tu k x' y' c':=by rw[h1,h2,h3]
@[congr]theorem YT{x x':AV}(h:x=x'):Jp k x=Jp k x':=by rw[h]
@[congr]theorem Vw{t:TypeId}{x x':AV}(h:x=x'):vW P t k x=vW P t k x':=by rw[h]
@[congr]theorem abw{t:TypeId}{x x':AV}(h:x=x'):glW P t k x=glW P t k x':=by rw[h]
@[congr]theorem KN{t:TypeId}{x x' y y':AV}(h:x=x')(h2:y=y'):eY P t k x y=eY P t k x' y':=by rw[h,h2]
@[congr]theorem abx{t:TypeId}{i:Nat}{x x':AV}(h:x=x'):Uu P t i k x=Uu P t i k x':=by rw[h]
@[congr]theorem aby{t:TypeId}{x x' y y':AV}(h:x=x')(h2:y=y'):Qx P t k x y=Qx P t k x' y':=by rw[h,h2]
@[congr]theorem abz{t:TypeId}{lo lo' hi hi':Option AV}{x x':AV}(h1:lo=lo')(h2:hi=hi')(h:x=x'):z6 P t lo hi k x=z6 P t lo' hi' k x':=by rw[h,h1,h2]
@[congr]theorem YU{t:TypeId}{x x':AV}(h:x=x'):Ap P t k x=Ap P t k x':=by rw[h]
@[congr]theorem YV{t:TypeId}{x x':AV}(h:x=x'):CM P t k x=CM P t k x':=by rw[h]
@[congr]theorem TC{t:TypeId}{i:Nat}{x x':AV}(h:x=x'):vr P t i k x=vr P t i k x':=by rw[h]
@[congr]theorem YW{i:Nat}{x x':AV}(h:x=x'):Eg i k x=Eg i k x':=by rw[h]
@[congr]theorem YX{x x':AV}(h:x=x'):Gv k x=Gv k x':=by rw[h]
@[congr]theorem YZ{op:BinOp}{t:TypeId}{x x' y y':AV}(h:x=x')(h2:y=y'):xk P op t k x y=xk P op t k x' y':=by rw[h,h2]
@[congr]theorem TD{t:TypeId}{x x' y y':AV}(h:x=x')(h2:y=y'):sw P t k x y=sw P t k x' y':=by rw[h,h2]
@[congr]theorem TE{t:TypeId}{lo lo' hi hi':Option AV}{x x':AV}(h1:lo=lo')(h2:hi=hi')(h:x=x'):gR P t lo hi k x=gR P t lo' hi' k x':=by rw[h,h1,h2]
@[congr]theorem TF{op:BinOp}{t:TypeId}{x x' y y':AV}(h:x=x')(h2:y=y'):bC P op t k x y=bC P op t k x' y':=by rw[h,h2]
@[congr]theorem Vx{op:UnOp}{x x':AV}(h:x=x'):tv op k x=tv op k x':=by rw[h]
@[congr]theorem Vy{s d:TypeId}{x x':AV}(h:x=x'):oh P s d k x=oh P s d k x':=by rw[h]
@[congr]theorem TG{t:TypeId}{x x':AV}(h:x=x'):sx P t k x=sx P t k x':=by rw[h]
@[congr]theorem abA{f:Fn}{ys zs:List AV}{x x':Option (List PC)}(hy:ys=zs)(h:x=x'):Wm f k ys x=Wm f k zs x':=by rw[h,hy]
@[congr]theorem Y0{x x':List AV}(h:x=x'):F0 k x=F0 k x':=by rw[h]
@[congr]theorem Y1{x x':List AV}(h:x=x'):F3 k x=F3 k x':=by rw[h]
@[congr]theorem TH{y y':Option (List PC)}{x x':AV}(h2:y=y')(h:x=x'):uY P k y x=uY P k y' x':=by rw[h,h2]
@[congr]theorem Vz{g:FuncId}{xs xs':List PC}(h:xs=xs'):zC P g xs k=zC P g xs' k:=by rw[h]
@[congr]theorem TI{t:TypeId}{x x':List (Nat×AV)}(h:x=x'):sH P t k x=sH P t k x':=by rw[h]
@[congr]theorem abB{t:TypeId}{x x':AV}(h:x=x'):saW P t k x=saW P t k x':=by rw[h]
@[congr]theorem abC{t:TypeId}{q:Prop}{x x':AV}(h:x=x'):slT P t tb kt q x=slT P t tb kt q x':=by rw[h]
@[congr]theorem abD{i:Nat}{x x':Option Ob}{y y':Option (Nat×Nat×Bool)}(h:x=x')(h2:y=y'):slO tb kt i x y=slO tb kt i x' y':=by rw[h,h2]
@[congr]theorem abE{i m s s':Nat}{x x':Option (List PC)}(h1:s=s')(h:x=x'):slC tb kt i m s x=slC tb kt i m s' x':=by rw[h,h1]
@[congr]theorem Y2{t:TypeId}{n:Nat}{x x':List (Nat×AV)}{o o':Option (List PC)}(h:x=x')(h2:o=o'):wP P t n tb kt x o=wP P t n tb kt x' o':=by rw[h,h2]
@[congr]theorem Y3{t:TypeId}{n:Nat}{x x':List (Nat×AV)}{o o':Option (TypeId×Nat×Nat)}(h:x=x')(h2:o=o'):KI t n tb kt x o=KI t n tb kt x' o':=by rw[h,h2]
@[congr]theorem Y4{t:TypeId}{n sz:Nat}{o o':Option (List AV)}(h2:o=o'):KJ t sz n tb kt o=KJ t sz n tb kt o':=by rw[h2]
@[congr]theorem Y5{t:TypeId}{n:Nat}{x x':List (Nat×AV)}(h:x=x'):zc P t n k x=zc P t n k x':=by rw[h]
@[congr]theorem Y6{t:TypeId}{x x':AV}(h:x=x'):GU P t tb kt x=GU P t tb kt x':=by rw[h]
@[congr]theorem TJ{t:TypeId}{x x':Option (List PC)}(h:x=x'):zy P tb kt x t=zy P tb kt x' t:=by rw[h]
@[congr]theorem VA{t:TypeId}{x x':AV}(h:x=x'):loadT P t tb kt x=loadT P t tb kt x':=by rw[h]
@[congr]theorem TK{t:TypeId}{x x' y y':AV}(h:x=x')(h2:y=y'):storeT P t tb kt x y=storeT P t tb kt x' y':=by rw[h,h2]
@[congr]theorem Y7{u:TypeId}{x x' y y':AV}{z z':Option (TypeId×Nat×Nat)}(h:x=x')(h2:y=y')(h3:z=z'):Aq P u tb kt x y z=Aq P u tb kt x' y' z':=by rw[h,h2,h3]
@[congr]theorem VB{l l':List AV}{x x':AV}(h:l=l')(h2:x=x'):wQ P l tb kt x=wQ P l' tb kt x':=by rw[h,h2]
@[simp]theorem akl{x:Operand}{name:String}{l:List Operand}{ts:Array TypeId}:kP P md (.call ⟨.invoke x name,l.toArray,ts⟩) e tb kt=KO P name (l.map e) tb kt (e x):=by simp[kP]
@[congr]theorem Y8{name:String}{l l':List AV}{x x':AV}(h:l=l')(h2:x=x'):KO P name l tb kt x=KO P name l' tb kt x':=by rw[h,h2]
@[simp]theorem afh{name:String}{l:List AV}{t:TypeId}{x:AV}:KO P name l tb kt (.mW t x)=KP P x l tb kt (wR P t name):=(rfl)
@[congr]theorem Y9{x x':AV}{l l':List AV}{o o':Option FuncId}(h:x=x')(h2:l=l')(h3:o=o'):KP P x l tb kt o=KP P x' l' tb kt o':=by rw[h,h2,h3]
@[simp]theorem abF{x:AV}{l:List AV}{gf:FuncId}:KP P x l tb kt (some gf)=vG P gf [] (x::l) tb kt:=(rfl)
theorem Pm{gf:FuncId}{ys l:List AV}{ts ts':Tb}{r:AV}(h:aE P gf ys ts r ts')(hl:toAll l ys)(hb:ay tb.bx ts.bx)(hr:ay tb.rw ts.rw)(hn:ts.nx=tb.nx)(hk:kt r (tb.merge ts ts')):vG P gf [] l tb kt:=⟨ys,ts,r,ts',hl,by simpa using h,hb,hr,hn,hk⟩
@[congr]theorem TL{ls:List Nat}{l l':List AV}{x x':AV}(h:l=l')(h2:x=x'):vF P cx ls l tb kt x=vF P cx ls l' tb kt x':=by rw[h,h2]
@[congr]theorem VC{l:Nat}{t:TypeId}{x x':AV}(h:x=x'):Bq P cx l t tb kt x=Bq P cx l t tb kt x':=by rw[h]
@[congr]theorem VD{kp:List Nat}{Pk:Tb}{x y:AV}(h:x=y)(h2:tb=aM):zB cx kp Pk kt x tb=zB cx kp Pk kt y aM:=by rw[h,h2]
def nL(P:Program)(gf:FuncId)(caps:List PC)(args:List AV)(tb:Tb)(kt:AV->Tb->Prop):Prop:=(∃xs,dV (args.map AV.nm)=some xs/\zC P gf (xs.map PC.wk++caps) (qK kt tb))\/vG P gf caps args tb kt\/N_ P gf caps args tb kt\/(caps=[]/\adL P gf args tb kt)
@[simp]theorem afi{l:List AV}{gf:FuncId}{caps:List PC}:wQ P l tb kt (.p (.fn (.func gf) caps))=nL P gf caps l tb kt:=(rfl)
@[simp]theorem abG{ls:List Nat}{l:List AV}{gf:FuncId}{caps:List PC}:vF P cx ls l tb kt (.p (.fn (.func gf) caps))=GY P cx ls gf caps l tb kt:=(rfl)
theorem bJ{g:FuncId}{xs:List PC}{r:PC}(h:aq P g xs r)(hk:k (.p r)):zC P g xs k:=⟨r,h,hk⟩
def Y_(caps:List PC):Option (List PC)->Option (List PC)
 |some xs=>some (xs.map PC.wk++caps)
 |none=>none
@[simp]theorem abH{caps xs:List PC}:Y_ caps (some xs)=some (xs.map PC.wk++caps):=(rfl)
theorem bZ{gf:FuncId}{caps ys:List PC}{l:List AV}{r:PC}(h:aq P gf ys r)(hl:Y_ caps (dV (l.map AV.nm))=some ys)(hk:kt (.p r) tb):nL P gf caps l tb kt:=by
 cases hx:dV (l.map AV.nm)with
 |none=>rw[hx]at hl;cases hl
 |some xs=>rw[hx]at hl;injection hl with hl;subst hl;exact .inl ⟨xs,hx,r,h,hk⟩
theorem bS{gf:FuncId}{caps ys:List PC}{l:List AV}{r:PC}(h:aq P gf ys r)(hk:kt (.p r) tb)(hl:Y_ caps (dV (l.map AV.nm))=some ys:=by simp):nL P gf caps l tb kt:=bZ h hl hk
theorem aA{gf:FuncId}{ys l:List AV}{ts ts':Tb}{r:AV}(h:aE P gf ys ts r ts')(hl:toAll l ys)(hb:ay tb.bx ts.bx)(hr:ay tb.rw ts.rw)(hn:ts.nx=tb.nx)(hk:kt r (tb.merge ts ts')):nL P gf [] l tb kt:= .inr<| .inl ⟨ys,ts,r,ts',hl,by simpa using h,hb,hr,hn,hk⟩
theorem mC{gf:FuncId}{ys l:List AV}{ts ts':Tb}{r:AV}(h:aE P gf ys ts r ts')(hn:ts.nx=tb.nx)(hk:kt r (tb.merge ts ts'))(hl:toAll l ys:=by simp)(hb:ay tb.bx ts.bx:=by simp[ay])(hr:ay tb.rw ts.rw:=by trivial):nL P gf [] l tb kt:=aA h hl hb hr hn hk
theorem rG{ls:List Nat}{gf:FuncId}{ys l:List AV}{ts ts':Tb}{r:AV}(h:aE P gf ys ts r ts')(hl:toAll l ys)(hb:ay tb.bx ts.bx)(hr:ay tb.rw ts.rw)(hn:ts.nx=tb.nx)(hf:∀l∈ls,lk (cx.lb l) ts.bx=none/\lk (cx.lb l) ts'.bx=none)(hk:kt r (tb.merge ts ts')):GY P cx ls gf [] l tb kt:=⟨ys,ts,r,ts',hl,by simpa using h,hb,hr,hn,hf,hk⟩
theorem bD{gf:FuncId}{ys:List PC}{l:List AV}{r:PC}(h:aq P gf ys r)(hl:gY (cQ tb.bx 4) l ys)(hr:r.flat=true)(hk:kt (.p r) tb):nL P gf [] l tb kt:= .inr<| .inr<| .inl ⟨ys,r,4,hl,by simpa using h,hr,hk⟩
theorem A2(n:Nat){gf:FuncId}{ys:List PC}{l:List AV}{r:PC}(h:aq P gf ys r)(hl:gY (cQ tb.bx n) l ys)(hr:r.flat=true)(hk:kt (.p r) tb):nL P gf [] l tb kt:= .inr<| .inr<| .inl ⟨ys,r,n,hl,by simpa using h,hr,hk⟩
theorem tf{gf:FuncId}{l:List AV}(h:J_ P gf){id o n s:Nat}{m:Option Nat}{y:AV}{ob:Ob}(ha:l=[.view id o n s m,y]\/l=[y,.view id o n s m])(hl:lk id tb.bx=some ob)(hsz:ob.sz=s)(hs:0<s)(D9:ob.el<1000000)(hy:tg y.nm)(hk:kt (.p (.bool false)) tb):nL P gf [] l tb kt:= .inr<| .inr<| .inr ⟨rfl,.inl ⟨h,hk,id,o,n,s,m,y,ob,ha,hl,hsz,hs,D9,hy⟩⟩
theorem NQ{gf:FuncId}{xs:List PC}{l:List AV}{r:PC}(h:Sl P gf xs r)(hl:dV (l.map AV.nm)=some xs)(hk:kt (.p r) tb):nL P gf [] l tb kt:= .inr<| .inr<| .inr ⟨rfl,.inr ⟨xs,r,hl,h,hk⟩⟩
end
end Go.Av
