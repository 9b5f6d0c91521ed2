/- TiersAgain, part 7: an abstract interpreter over any program's form, with its proof of soundness; no condition. -/
import Derived.Test.YtgkdpbambfgahaaGreatDoorWaf
set_option linter.all false
set_option maxRecDepth 100000
set_option maxHeartbeats 64000000
namespace Go.Av
open Go.RowKit
variable{x x':AV}{after:Array Edge}{ts:Array TypeId}{md':Bool}{a b:Code}{gf:FuncId}{cls:List (Nat×List (Nat×Cls))}{lab:List (Nat×Nat)}{ot:List (Nat×OT)}{bx:List (Nat×Ob)}{rw:List (Nat×TypeId×Nat)}{l':List AV}{ls:List Nat}{l:List Oper}{caps xs ys:List PC}{nx iM o:Nat}{sub:OT}{c:Operand}{z z':Option (TypeId×Nat×Nat)}{r:PC}{pos:String}{tb0 ts':Tb}{t ty:TypeId}
def rgK(P:Program)(cx:Cx)(ops:Array Oper)(K:AS->Prop)(rest:List Oper)(sl:Nat->AV)(d:Option Tmp):AV->Tb->Prop:=λx tb=>D3 P cx ops K rest ⟨h_ sl d x,tb⟩
def rdK(P:Program)(cx:Cx)(m:List (Nat×Cls))(ops:Array Oper)(K:AS->Prop)(i:Nat)(rest:List Oper)(sl:Nat->AV)(d:Option Tmp):AV->Tb->Prop:=λx tb=>Hr P cx m ops K (i+1) rest ⟨h_ sl d x,tb⟩
def qK(k:AV->Tb->Prop)(tb:Tb):AV->Prop:=λx=>k x tb
def aaA(P:Program)(cx:Cx)(b:Code)(Q:Exit->AS->Prop):Exit->AS->Prop:=λe st'=>match e with
 | .normal=>aw P cx b st' Q
 |e=>Q e st'
def aaB(id:Nat)(Q:Exit->AS->Prop):Exit->AS->Prop:=λe st'=>match e with
 | .exit j=>if j=id then Q .normal st' else Q (.exit j) st'
 |e=>Q e st'
def norm(Q:Exit->AS->Prop):AS->Prop:=λst=>Q .normal st
section
variable{P:Program}{cx:Cx}{Q:Exit->AS->Prop}{K:AS->Prop}{k:AV->Prop}{kt:AV->Tb->Prop}{st st':AS}{sl:Nat->AV}{tb a_:Tb}{m:List (Nat×Cls)}
@[congr]def ak6{c:Code}(h:st=st'):aw P cx c st Q=aw P cx c st' Q:=by rw[h]
@[congr]def ah9{ops:Array Oper}(h:st=st'):D3 P cx ops K l st=D3 P cx ops K l st':=by rw[h]
@[congr]def ah_{ops:Array Oper}{i:Nat}(h:st=st'):Hr P cx m ops K i l st=Hr P cx m ops K i l st':=by rw[h]
@[simp]def af5:=qA @aw.eq_1<|qA @aw.eq_8<|@aw.eq_9
@[simp]def aoY:aw P cx (.seq a b) st Q=aw P cx a st (aaA P cx b Q):=(rfl)
@[simp]def ak7{i:Nat}{c:Code}:aw P cx (.block i c) st Q=aw P cx c st (aaB i Q):=(rfl)
@[simp]def anc{i:Nat}:aw P cx (.region i l.toArray false) st Q=Lx P cx l.toArray (norm Q) st (af6 (lk i cx.ot)):=(rfl)
@[congr]def af7{ops:Array Oper}{x y:Bool}(hs:st=st')(h:x=y):Lx P cx ops K st x=Lx P cx ops K st' y:=by grind
@[simp]def af8:Lx P cx l.toArray K st false=D3 P cx l.toArray K l st:=(rfl)
@[simp]def ah':af6 none=false:=(rfl)
@[congr]def af9{ops:Array Oper}{x y:Option OT}{m':List (Nat×Cls)}(hm:m=m')(hs:st=st')(h:x=y):LP P cx m ops K st x=LP P cx m' ops K st' y:=by grind
@[congr]def acI{ops:Array Oper}{t:OT}{b:Bool}(hs:st=st'):ga P cx ops K t b st=ga P cx ops K t b st':=by grind
def wkK(P:Program)(cx:Cx)(ops:Array Oper)(K:AS->Prop)(sub:OT)(sl:Nat->AV)(d:Option Tmp):AV->Tb->Prop:=λx tb=>ga P cx ops K sub true ⟨h_ sl d x,tb⟩
def wkX(P:Program)(cx:Cx)(ops:Array Oper)(K:AS->Prop)(sub:OT)(st:AS)(o:Option Oper):Prop:=wkO P cx ops (ga P cx ops K sub true) st o
@[congr]def aia{ops:Array Oper}{x y:Option Oper}(hs:st=st')(h:x=y):wkX P cx ops K sub st x=wkX P cx ops K sub st' y:=by grind
@[simp]def ane{i:Nat}:aw P cx (.region i l.toArray true) st Q=LP P cx (cx.m i) l.toArray (norm Q) st (lk i cx.ot):=(rfl)
@[simp]def aib:LP P cx m l.toArray K st none=Hr P cx m l.toArray K 0 l st:=(rfl)
@[simp]def aic{i:Nat}{s t:OT}:LP P cx m l.toArray K st (some (.br i s t))=ga P cx l.toArray K (.br i s t) true st:=(rfl)
@[simp]def ak8{i:Nat}{s:OT}:LP P cx m l.toArray K st (some (.one i s))=ga P cx l.toArray K (.one i s) true st:=(rfl)
@[simp]def ak9:ga P cx l.toArray K .lf true st=K st:=by simp[ga]
@[simp]def aid:ga P cx l.toArray K .lf false st=True:=by simp[ga]
@[simp]def ak_{i:Nat}{QB:OT}{b:Bool}:ga P cx l.toArray K (.br i sub QB) b st=(wkX P cx l.toArray K sub st l[i]?/\ga P cx l.toArray K QB false st):=by
 simp only[ga,wkX,uR]
def wkY(P:Program)(cx:Cx)(ops:Array Oper)(K:AS->Prop)(sub:OT)(st:AS)(o:Option Oper):Prop:=wkQ P ops (ga P cx ops K sub true) st o
@[congr]def aie{ops:Array Oper}{x y:Option Oper}(hs:st=st')(h:x=y):wkY P cx ops K sub st x=wkY P cx ops K sub st' y:=by grind
@[simp]def aif{i:Nat}{b:Bool}:ga P cx l.toArray K (.one i sub) b st=wkY P cx l.toArray K sub st l[i]?:=by
 simp only[ga,wkY,uR]
@[simp]def ak'{d:Option Tmp}{op:Op}:wkY P cx l.toArray K sub ⟨sl,tb⟩ (some ⟨d,op,ty,pos,after,none⟩)=jq P op (bT sl) (qK (wkK P cx l.toArray K sub sl d) tb):=(rfl)
@[simp]def ala{d:Option Tmp}{op:Op}:wkX P cx l.toArray K sub ⟨sl,tb⟩ (some ⟨d,op,ty,pos,after,none⟩)=mX P (cx.xE d) op (bT sl) tb (wkK P cx l.toArray K sub sl d):=(rfl)
@[simp]def aoZ{d:Option Tmp}:wkK P cx l.toArray K sub sl d x tb=ga P cx l.toArray K sub true ⟨h_ sl d x,tb⟩:=(rfl)
def Aa(P:Program)(cx:Cx)(a b:Code)(st:AS)(Q:Exit->AS->Prop):AV->Prop
 | .p (.sc (.bool t))=>if t=true then aw P cx a st Q else aw P cx b st Q
 |_=>False
@[simp]def anf:aw P cx (.cond c a b) st Q=Aa P cx a b st Q (bT st.sl c):=by
 simp only[aw,Aa];split<;>rename_i h<;>simp[h]
@[congr]def acJ{y:AV}(h:x=y):Aa P cx a b st Q x=Aa P cx a b st Q y:=by rw[h]
@[simp]def af_:Aa P cx a b st Q (.p (.sc (.bool true)))=aw P cx a st Q:=by simp[Aa]
@[simp]def acK:Aa P cx a b st Q (.p (.sc (.bool false)))=aw P cx b st Q:=by simp[Aa]
@[simp]def af':=@aaA.eq_1
@[simp]def ao0{i:Nat}:aaA P cx b Q (.exit i) st=Q (.exit i) st:=(rfl)
@[simp]def ao1:aaA P cx b Q .ret st=Q .ret st:=(rfl)
@[simp]def ao2{i:Nat}:aaB i Q .normal st=Q .normal st:=(rfl)
@[simp]def acL:=@aaB.eq_1
@[simp]def ao3{i:Nat}:aaB i Q .ret st=Q .ret st:=(rfl)
@[simp]def acM:=qA @norm.eq_1<|qA @D3.eq_1<|@Hr.eq_1
@[simp]def alb{ops:Array Oper}{d:Option Tmp}{op:Op}{rest:List Oper}:D3 P cx ops K (⟨d,op,ty,pos,after,none⟩::rest) ⟨sl,tb⟩=mX P (cx.xE d) op (bT sl) tb (rgK P cx ops K rest sl d):=(rfl)
@[simp]def alc{ops:Array Oper}{d:Option Tmp}{op:Op}{rest:List Oper}{i:Nat}:Hr P cx m ops K i (⟨d,op,ty,pos,after,none⟩::rest) ⟨sl,tb⟩=GZ P cx (cx.xE d) op (bT sl) tb (rdK P cx m ops K i rest sl d) (iu m i):=(rfl)
def C6(ops:List Oper)(j:Nat):Option Tmp:=(ops[j]?).bind (·.dst)
def gdG(a b:Prop):Option Bool->Prop
 |some true=>a
 |some false=>b
 |none=>False
def gdW(P:Program)(cx:Cx)(ops:Array Oper)(K:AS->Prop)(rest:List Oper)(sl:Nat->AV)(tb:Tb)(d:Option Tmp)(op:Op)(want:Bool)(x:AV):Prop:=gdG (mX P (cx.xE d) op (bT sl) tb (rgK P cx ops K rest sl d)) (D3 P cx ops K rest ⟨h_ sl d (.agg true []),tb⟩) (vF want x)
def gdD(P:Program)(cx:Cx)(m:List (Nat×Cls))(ops:Array Oper)(K:AS->Prop)(i:Nat)(rest:List Oper)(sl:Nat->AV)(tb:Tb)(d:Option Tmp)(op:Op)(want:Bool)(x:AV):Prop:=gdG (GZ P cx (cx.xE d) op (bT sl) tb (rdK P cx m ops K i rest sl d) (iu m i)) (Hr P cx m ops K (i+1) rest ⟨h_ sl d (.agg true []),tb⟩) (vF want x)
def slot(sl:Nat->AV):Option Tmp->AV
 |some d=>sl d
 |none=> .any
@[simp]def aih{d:Option Tmp}{op:Op}{rest:List Oper}{j:Nat}{want:Bool}:D3 P cx l.toArray K (⟨d,op,ty,pos,after,some (j,want)⟩::rest) ⟨sl,tb⟩=gdW P cx l.toArray K rest sl tb d op want (slot sl (C6 l j)):=by
 simp only[D3,ke,C6,uR];generalize(l[j]?).bind (·.dst)=s;cases s with
 |none=>rfl
 |some t=>
  simp only[slot];generalize sl t=v;unfold gdW;cases vF want v with
  |none=>rfl
  |some b=>cases b<;>rfl
@[simp]def aii{d:Option Tmp}{op:Op}{rest:List Oper}{j:Nat}{want:Bool}{i:Nat}:Hr P cx m l.toArray K i (⟨d,op,ty,pos,after,some (j,want)⟩::rest) ⟨sl,tb⟩=gdD P cx m l.toArray K i rest sl tb d op want (slot sl (C6 l j)):=by
 simp only[Hr,ke,C6,uR];generalize(l[j]?).bind (·.dst)=s;cases s with
 |none=>rfl
 |some t=>
  simp only[slot];generalize sl t=v;unfold gdD;cases vF want v with
  |none=>rfl
  |some b=>cases b<;>rfl
section
variable{ops:Array Oper}{rest:List Oper}{d:Option Tmp}{op:Op}{want:Bool}{i:Nat}
@[congr]def aij{y:AV}(h:x=y):gdW P cx ops K rest sl tb d op want x=gdW P cx ops K rest sl tb d op want y:=by rw[h]
@[congr]def aik{y:AV}(h:x=y):gdD P cx m ops K i rest sl tb d op want x=gdD P cx m ops K i rest sl tb d op want y:=by rw[h]
@[simp]def ao4:gdW P cx ops K rest sl tb d op true (.p (.sc (.bool true)))=mX P (cx.xE d) op (bT sl) tb (rgK P cx ops K rest sl d):=(rfl)
@[simp]def ao5:gdW P cx ops K rest sl tb d op false (.p (.sc (.bool false)))=mX P (cx.xE d) op (bT sl) tb (rgK P cx ops K rest sl d):=(rfl)
@[simp]def ao6:gdW P cx ops K rest sl tb d op true (.p (.sc (.bool false)))=D3 P cx ops K rest ⟨h_ sl d (.agg true []),tb⟩:=(rfl)
@[simp]def ao7:gdW P cx ops K rest sl tb d op false (.p (.sc (.bool true)))=D3 P cx ops K rest ⟨h_ sl d (.agg true []),tb⟩:=(rfl)
@[simp]def ao8:gdD P cx m ops K i rest sl tb d op true (.p (.sc (.bool true)))=GZ P cx (cx.xE d) op (bT sl) tb (rdK P cx m ops K i rest sl d) (iu m i):=(rfl)
@[simp]def ao9:gdD P cx m ops K i rest sl tb d op false (.p (.sc (.bool false)))=GZ P cx (cx.xE d) op (bT sl) tb (rdK P cx m ops K i rest sl d) (iu m i):=(rfl)
@[simp]def ao_:gdD P cx m ops K i rest sl tb d op true (.p (.sc (.bool false)))=Hr P cx m ops K (i+1) rest ⟨h_ sl d (.agg true []),tb⟩:=(rfl)
@[simp]def ao':gdD P cx m ops K i rest sl tb d op false (.p (.sc (.bool true)))=Hr P cx m ops K (i+1) rest ⟨h_ sl d (.agg true []),tb⟩:=(rfl)
@[simp]def apa:gdW P cx ops K rest sl tb d op want (.agg true [])=D3 P cx ops K rest ⟨h_ sl d (.agg true []),tb⟩:=(rfl)
@[simp]def acN:=qA @rgK.eq_1<|@rdK.eq_1
@[congr]def ail{y:AV}(h:x=y)(h2:tb=a_):rgK P cx ops K rest sl d x tb=rgK P cx ops K rest sl d y a_:=by grind
@[congr]def aim{y:AV}(h:x=y)(h2:tb=a_):rdK P cx m ops K i rest sl d x tb=rdK P cx m ops K i rest sl d y a_:=by grind
end
@[simp]def aga{o:Oper}:C6 (o::l) 0=o.dst:=(rfl)
@[simp]def agb{o:Oper}{j:Nat}:C6 (o::l) (j+1)=C6 l j:=(rfl)
@[simp]def acO:=qA @slot.eq_1<|@qK.eq_1
@[congr]def ald{y:AV}(h:x=y):qK kt tb x=qK kt tb y:=by rw[h]
@[simp]def acP:=qA @h_.eq_1<|qA @h_.eq_2<|qA @bT.eq_1<|@bT.eq_3
@[simp]def ang{b:Bool}:bT sl (.const (.bool b))= .p (.sc (.bool b)):=(rfl)
@[simp]def apb{c:IntKind}{n:Int}:bT sl (.const (.int c n))= .p (.sc (.int c n)):=(rfl)
@[simp]def apc{s:ByteArray}:bT sl (.const (.string s))= .p (.sc (.string s)):=(rfl)
@[simp]def apd:bT sl (.const (.slice none 0 0))= .p .nil:=(rfl)
@[simp]def ape:bT sl (.const (.pointer none))= .p (.sc (.pointer none)):=(rfl)
@[simp]def ale{f:Nat->AV}{d:Nat}:AJ f d x d=x:=by simp[AJ]
@[simp]def apf{f:Nat->AV}{d t:Nat}(h:(t==d)=false):AJ f d x t=f t:=by simp at h;simp[AJ,h]
@[simp]def acQ:=qA @lk.eq_1<|qA @lk.eq_2<|qA @del.eq_1<|qA @del.eq_2<|qA @cX.eq_1<|@cX.eq_2
@[simp]def alf{o:Ob}:Tb.bD ⟨bx,rw,nx⟩ o=⟨(nx,o)::bx,rw,nx+1⟩:=(rfl)
@[simp]def alg{id:Nat}:Tb.cV ⟨bx,rw,nx⟩ id=⟨del id bx,rw,nx⟩:=(rfl)
@[simp]def alh{e:TypeId}{s:Nat}:Tb.cC ⟨bx,rw,nx⟩ e s=⟨bx,(nx,e,s)::rw,nx+1⟩:=(rfl)
@[simp]def ali{id:Nat}{o:Ob}:Tb.aY ⟨bx,rw,nx⟩ id o=⟨(id,o)::del id bx,rw,nx⟩:=(rfl)
@[simp]def agc{e:TypeId}{s:Nat}:rQ ⟨bx,rw,nx⟩ none e s=⟨bx,(nx,e,s)::rw,nx+1⟩:=(rfl)
@[simp]def agd{id:Nat}{e:TypeId}{s:Nat}:rQ ⟨bx,rw,nx⟩ (some id) e s=⟨bx,(nx,e,s)::del id rw,nx+1⟩:=(rfl)
@[simp]def alj{bx1 bx2:List (Nat×Ob)}{rw1 rw2:List (Nat×TypeId×Nat)}{nx1 nx2:Nat}:Tb.merge ⟨bx,rw,nx⟩ ⟨bx1,rw1,nx1⟩ ⟨bx2,rw2,nx2⟩=⟨bx2++cX bx1 bx,rw2++cX rw1 rw,nx2⟩:=(rfl)
@[simp]def acR:=qA @aA.eq_1<|@aA.eq_2
@[simp]def ain{md:List Nat}{d:Tmp}:Cx.xE ⟨md,cls,lab,iM,ot⟩ (some d)=md.contains d:=(rfl)
@[simp]def acS:=@Cx.xE.eq_2
def aaC:Option (List (Nat×Cls))->List (Nat×Cls)
 |some l=>l
 |none=>[]
def aaD:Option Cls->Cls
 |some c=>c
 |none=> .q
@[simp]def apg{md:List Nat}{d:Nat}:Cx.m ⟨md,cls,lab,iM,ot⟩ d=aaC (lk d cls):=by
 unfold Cx.m mOf aaC;cases lk d cls<;>rfl
@[simp]def acT:=qA @aaC.eq_1<|@aaC.eq_2
@[simp]def alk{l:List (Nat×Cls)}{i:Nat}:iu l i=aaD (lk i l):=by
 unfold iu aaD;cases lk i l<;>rfl
@[simp]def acU:=qA @aaD.eq_1<|@aaD.eq_2
def lbG:Option Nat->Nat
 |some c=>c
 |none=>0
@[simp]def aqL{md:List Nat}{l:Nat}:Cx.lb ⟨md,cls,lab,iM,ot⟩ l=lbG (lk l lab):=by
 unfold Cx.lb lbG;cases lk l lab<;>rfl
@[simp]def acV:=@lbG.eq_1
def nmG(t:Bool)(xs:List AV):Option (List PC)->AV
 |some ys=> .p (.agg t ys)
 |none=> .agg t xs
def VS:Option PC->Option (List PC)->Option (List PC)
 |some x,some l=>some (x::l)
 |_,_=>none
def pcG(t:Bool):Option (List PC)->Option PC
 |some ys=>some (.agg t ys)
 |none=>none
@[simp]def acW:=qA @AV.pc.eq_1<|qA @AV.pc.eq_2<|@AV.pc.eq_3
@[simp]def age{t:Bool}{xs:List AV}:AV.pc (.agg t xs)=pcG t (AV.pc.fM xs):=by
 simp only[AV.pc,pcG];cases AV.pc.fM xs<;>rfl
@[simp]def acX:=@AV.pc.fM.eq_1
@[simp]def alm{l:List AV}:AV.pc.fM (x::l)=VS x.pc (AV.pc.fM l):=by
 simp only[AV.pc.fM];cases x.pc<;>cases AV.pc.fM l<;>rfl
@[simp]def anh{l:List PC}:AV.pc.fM (l.map .p)=some l:=by
 induction l with
 |nil=>rfl
 |cons x l ih=>simp[ih,VS]
@[simp]def acY:=qA @VS.eq_1<|@pcG.eq_1
@[simp]def ard{x:PC}:AV.nm (.p x)= .p x:=(rfl)
@[simp]def ani:AV.nm (.full xs)= .p (.sl xs):=(rfl)
@[simp]def aph{i:Nat}:AV.nm (.obj i o)= .obj i o:=(rfl)
@[simp]def anj{i n s:Nat}{c:Option Nat}:AV.nm (.view i o n s c)= .view i o n s c:=(rfl)
@[simp]def apj{t:Bool}{xs:List AV}:AV.nm (.agg t xs)=nmG t xs (AV.pc.fM xs):=by
 simp only[AV.nm,age];cases AV.pc.fM xs<;>rfl
@[simp]def acZ:=@nmG.eq_1
variable{e:Operand->AV}{md:Bool}
@[simp]def apk{x:Operand}:mX P md (.move x) e tb kt=jq P (.move x) e (qK kt tb):=(rfl)
@[simp]def aln{x:Operand}:mX P md (.assign x) e tb kt=jq P (.assign x) e (qK kt tb):=(rfl)
@[simp]def apl{a b:Operand}:mX P md (.pick c a b) e tb kt=jq P (.pick c a b) e (qK kt tb):=(rfl)
@[simp]def ac0{x:Operand}{i:Nat}:mX P md (.fieldAddr t x i) e tb kt=jq P (.fieldAddr t x i) e (qK kt tb):=(rfl)
@[simp]def ank{x:Operand}{i:Nat}:mX P md (.field t x i) e tb kt=jq P (.field t x i) e (qK kt tb):=(rfl)
@[simp]def ac1{x i:Operand}:mX P md (.indexAddr t x i) e tb kt=jq P (.indexAddr t x i) e (qK kt tb):=(rfl)
@[simp]def anl{x i:Operand}:mX P md (.index t x i) e tb kt=jq P (.index t x i) e (qK kt tb):=(rfl)
@[simp]def alo{x:Operand}:mX P md (.slice t x none none none) e tb kt=slT P t tb kt (jq P (.slice t x none none none) e (qK kt tb)) (e x):=(rfl)
@[simp]def alp{x lo:Operand}{hi mx:Option Operand}:mX P md (.slice t x (some lo) hi mx) e tb kt=jq P (.slice t x (some lo) hi mx) e (qK kt tb):=(rfl)
@[simp]def alq{x hi:Operand}:mX P md (.slice t x none (some hi) none) e tb kt=jq P (.slice t x none (some hi) none) e (qK kt tb):=(rfl)
@[simp]def aio{x hi mx:Operand}:mX P true (.slice t x none (some hi) (some mx)) e tb kt=EO P t tb kt (e hi).nm (e mx).nm (e x):=(rfl)
@[congr]def ac2{a a' b b':AV}(h1:a=a')(h2:b=b')(h3:x=x'):EO P t tb kt a b x=EO P t tb kt a' b' x':=by grind
@[simp]def ac3:=@EO.eq_1
@[congr]def aip{id n s:Nat}{y y':Option Ob}(h:y=y'):clO tb kt id n s y=clO tb kt id n s y':=by rw[h]
@[simp]def ac4:=qA @clO.eq_1<|qA @slT.eq_1<|qA @slO.eq_1<|@slC.eq_1
@[simp]def alr{zs:List PC}:fS (zs.map .p)=some zs:=by induction zs with
 |nil=>rfl
 |cons z l ih=>simp[fS,ih]
@[simp]def anm{op:BinOp}{t2:TypeId}{x y:Operand}:mX P md (.binOp op t x y t2) e tb kt=jq P (.binOp op t x y t2) e (qK kt tb):=(rfl)
@[simp]def apm{op:UnOp}{x:Operand}:mX P md (.unOp op t x) e tb kt=jq P (.unOp op t x) e (qK kt tb):=(rfl)
@[simp]def ac5:=@mX.eq_6
@[simp]def ano{s d:TypeId}{x:PC}:xF P false s d tb kt (.p x)=rM P s d (qK kt tb) (.p x):=(rfl)
@[simp]def agf{s d:TypeId}:xF P false s d tb kt (.full xs)=rM P s d (qK kt tb) (AV.full xs).nm:=(rfl)
@[simp]def agh{s d:TypeId}{id f n z:Nat}{m:Option Nat}(h:isStr P d=true):xF P md s d tb kt (.view id f n z m)=cvV P s d tb kt (.view id f n z m):=by simp only[xF,h,cr]
@[simp]def aiq{s d:TypeId}{b:ByteArray}:xF P true s d tb kt (.p (.sc (.string b)))=cvB P s d tb kt b (dF P d):=(rfl)
@[congr]def ac6{s d:TypeId}(h:x=x'):xF P md s d tb kt x=xF P md s d tb kt x':=by rw[h]
@[congr]def air{s d:TypeId}{b:ByteArray}{x x':Option (TypeId×Nat×Nat)}(h:x=x'):cvB P s d tb kt b x=cvB P s d tb kt b x':=by rw[h]
@[simp]def als{s d:TypeId}{b:ByteArray}{z:TypeId×Nat×Nat}(h1:isStr P s=true)(h2:fT P d=true)(h3:z.2.1=1):cvB P s d tb kt b (some z)=((bs b).length<=9223372036854775807/\kt (.view tb.nx 0 (bs b).length 1 none) (tb.bD ⟨z.1+1000000,1,(af (bs b)).map .p⟩)):=by
 obtain⟨z1,z2,z3⟩:=z;simp only at h3;simp[cvB,h1,h2,h3]
def alu{s d:TypeId}(l:aF)(h1:fT P s=true)(h2:isStr P d=true)(h3:dA tb.bx 1 x (.sl (af l)))(hk:kt (.p (.str l)) tb):cvV P s d tb kt x:=⟨h1,h2,l,h3,hk⟩
@[simp]def RY{x:Operand}:mX P md (.makeInterface t x) e tb kt=jq P (.makeInterface t x) e (qK kt tb):=(rfl)
@[simp]def agi{f:Fn}{fs cs:Array Operand}:mX P md (.makeFunc f fs cs) e tb kt=jq P (.makeFunc f fs cs) e (qK kt tb):=(rfl)
@[simp]def ais{x:Operand}{i:Nat}:mX P md (.extract x i) e tb kt=jq P (.extract x i) e (qK kt tb):=(rfl)
@[simp]def agj{x:Operand}:mX P md (.nilCheck x) e tb kt=jq P (.nilCheck x) e (qK kt tb):=(rfl)
@[simp]def anp{ps:Array (Nat×Operand)}:mX P md (.build t ps) e tb kt=jq P (.build t ps) e (qK kt tb):=(rfl)
@[simp]def aaE{n:Nat}{l:List (Nat×Operand)}:mX P false (.buildSlice t n l.toArray) e tb kt=VT P t n tb kt (DX P t n (qK kt tb) (l.map λp=>(p.1,e p.2))) (l.map λp=>(p.1,e p.2)) (fS ((l.map λp=>(p.1,e p.2)).map λp=>p.2.nm)):=(rfl)
@[simp]def ac7:=qA @VT.eq_1<|@VT.eq_2
@[congr]def aaF{n:Nat}{ps ps':List (Nat×AV)}{o o':Option (TypeId×Nat×Nat)}(h:ps=ps')(h2:o=o'):C7 n tb kt ps o=C7 n tb kt ps' o':=by grind
def U'{n:Nat}{ps:List (Nat×AV)}{e0:TypeId}{sz dQ:Nat}(ys:List PC)(a_:Tb)(h1:0<sz/\bW 0 ps=true/\ps.length=n/\n*sz<=16777216)(h2:Gz tb a_ (ps.map (·.2)) ys)(h3:∀y∈ys,y.width=sz)(h4:∀y∈ys,cE y=true)(hk:kt (.full ys) a_):C7 n tb kt ps (some (e0,sz,dQ)):=⟨h1.1,h1.2.1,h1.2.2.1,h1.2.2.2,ys,a_,h2,h3,h4,hk⟩
@[simp]def XJ{n:Nat}{l:List (Nat×Operand)}:mX P true (.buildSlice t n l.toArray) e tb kt=Ab P t n tb kt (l.map λp=>(p.1,e p.2)) (fS ((l.map λp=>(p.1,e p.2)).map λp=>p.2.nm)):=(rfl)
@[simp]def ac8:=qA @Ab.eq_1<|qA @Ab.eq_2<|qA @VU.eq_1<|qA @VW.eq_1<|qA @rI.eq_1<|qA @rI.eq_2<|@CN.eq_1
def VX(n:Nat)(ys:List PC)(tb:Tb)(kt:AV->Tb->Prop):Option (TypeId×Nat×Nat)->Prop
 |some (e,sz,_)=>kt (.view tb.nx 0 n sz (some n)) (tb.bD ⟨e,sz,ys.flatMap bA⟩)
 |none=>False
@[congr]def ac9{n:Nat}{x y:Option (TypeId×Nat×Nat)}(h:x=y):VX n ys tb kt x=VX n ys tb kt y:=by rw[h]
@[simp]def agk{n:Nat}{z:TypeId×Nat×Nat}:VX n ys tb kt (some z)=kt (.view tb.nx 0 n z.2.1 (some n)) (tb.bD ⟨z.1,z.2.1,ys.flatMap bA⟩):=(rfl)
@[simp]def ait{n:Nat}:aaG P t n tb kt (.full ys)=VX n ys tb kt (dF P t):=by
 unfold aaG VX;generalize dF P t=z;cases z<;>rfl
@[simp]def apn{x:Operand}:mX P false (.box t x) e tb kt=jq P (.box t x) e (qK kt tb):=(rfl)
@[simp]def apo{x:Operand}:mX P true (.box t x) e tb kt=LQ P t tb kt (e x):=(rfl)
@[simp]def ac_:=qA @mX.eq_2<|qA @mX.eq_7<|@mX.eq_8
@[simp]def aqM{x y:Operand}{u:TypeId}:mX P md (.call ⟨.builtin .append,#[x,y],#[t,u]⟩) e tb kt=D4 P md u tb kt (dF P t) (e x) (e y):=by simp[mX]
@[simp]def apq{x y:Operand}{u:TypeId}:mX P md (.call ⟨.builtin .copy,#[x,y],#[t,u]⟩) e tb kt=cpT tb kt (aO P t) (e x) (e y):=by simp[mX]
@[simp]def anq{x:Operand}:mX P md (.call ⟨.builtin .clear,#[x],#[t]⟩) e tb kt=clT P tb kt (e x) (dF P t):=by simp[mX]
@[simp]def ac'{x y:Operand}:mX P false (.makeSlice t x y) e tb kt=mkT P tb kt (e x).nm (e y).nm (dF P t):=(rfl)
@[simp]def aaH{x y:Operand}:mX P true (.makeSlice t x y) e tb kt=mkP P tb kt (e x).nm (e y).nm (dF P t):=(rfl)
@[congr]def aiu{y y':AV}(h:x=x')(h2:y=y')(h3:z=z'):mkP P tb kt x y z=mkP P tb kt x' y' z':=by grind
@[congr]def agl{n c:Int}{dQ s:Nat}{z z':Option (List PC)}(h3:z=z'):VY tb kt n c dQ s z=VY tb kt n c dQ s z':=by grind
@[simp]def ada:=qA @mkP.eq_1<|@VY.eq_1
@[congr]def agm{md:Bool}{u:TypeId}{y y':AV}(h0:md=md')(h3:z=z')(h:x=x')(h2:y=y'):D4 P md u tb kt z x y=D4 P md' u tb kt z' x' y':=by grind
@[congr]def aiv{z z':Option Nat}{y y':AV}(h3:z=z')(h:x=x')(h2:y=y'):cpT tb kt z x y=cpT tb kt z' x' y':=by grind
@[congr]def aiw(h:x=x')(h3:z=z'):clT P tb kt x z=clT P tb kt x' z':=by grind
@[congr]def aix{y y':AV}(h:x=x')(h2:y=y')(h3:z=z'):mkT P tb kt x y z=mkT P tb kt x' y' z':=by grind
@[simp]def apr{u:TypeId}{y:AV}(h:isNone x):D4 P true u tb kt z x y=VZ P u tb kt x y z:=by
 unfold isNone at h;split at h
 .rfl
 .rfl
 .exact h.elim
@[simp]def aps{u:TypeId}{x:PC}{y:AV}:D4 P false u tb kt z (.p x) y=Ap P u tb kt (.p x) y.nm z:=(rfl)
@[simp]def alv{u:TypeId}{i:Nat}{x:List PC}{y:AV}:D4 P false u tb kt z (.own i x) y=Ap P u tb kt (.own i x) y.nm z:=(rfl)
@[simp]def aiy{u:TypeId}{x:List PC}{y:AV}:D4 P false u tb kt z (.full x) y=Ap P u tb kt (.full x) y.nm z:=(rfl)
@[simp]def adb:=qA @D4.eq_1<|qA @isNone.eq_1<|@isNone.eq_2
section
variable{u e:TypeId}{id f n s dQ s':Nat}{m:Option Nat}{y y':AV}{ob:Ob}
@[simp]def ade:=@agn.eq_1
@[congr]def ago{a a':Option IntKind}{b b':Option Ob}(h:y=y')(h1:a=a')(h2:b=b'):QC P u tb kt id f n s m dQ e y a b=QC P u tb kt id f n s m dQ e y' a' b':=by grind
@[simp]def adf:=qA @QC.eq_1<|qA @QC.eq_2<|qA @aaI.eq_1<|@aaI.eq_2
@[congr]def agp{z z':Option (List PC)}(h:y=y')(h2:z=z'):QD P tb kt id f n s dQ e ob m y z=QD P tb kt id f n s dQ e ob m y' z':=by grind
@[simp]def adg:=qA @QD.eq_1<|@QD.eq_2
variable{kz:Nat->List AV->Prop}{j:Nat}{zs:List AV}
@[simp]def adh:=qA @adi.eq_1<|qA @adj.eq_1<|@adk.eq_1
def Jf(n f s:Nat)(kz:Nat->List AV->Prop):Option Ob->Prop
 |some ob=>(f+n)*s<=ob.xs.length/\kz n ((ob.xs.drop (f*s)).take (n*s))
 |none=>False
@[congr]def adl{a b:Option Ob}(h:a=b):Jf n f s kz a=Jf n f s kz b:=by rw[h]
@[simp]def adn:=@Jf.eq_1
@[simp]def aiz(h:(aO P u).isSome=true):vE P tb u s kz (.view id f n s' m)=(s'=s/\Jf n f s kz (lk id tb.bx)):=by
 simp only[vE,Jf,h,true_and];cases lk id tb.bx<;>rfl
@[simp]def anr(h:(aO P u).isSome=true):vE P tb u s kz (.p (.sl ys))=((∀y∈ys,y.width=s)/\(∀y∈ys,cE y=true)/\kz ys.length (ys.flatMap bA)):=by simp[vE,h]
@[simp]def aiA:vE P tb u s kz (.full ys)=vE P tb u s kz (.p (.sl ys)):=(rfl)
@[simp]def ans:vE P tb u s kz (.nn ys)=vE P tb u s kz (.p (.sl ys)):=(rfl)
@[simp]def alw{b:ByteArray}(h:isStr P u=true):vE P tb u s kz (.p (.sc (.string b)))=(s=1/\kz (bs b).length ((af (bs b)).map .p)):=by simp[vE,h]
@[simp]def aiB(h:isNone x):VZ P u tb kt x y (some (e,s,dQ))=C8 P u tb kt s dQ e y (Av.intOf P u):=by simp[VZ,h]
@[congr]def ado{a a':Option IntKind}(h:y=y')(h1:a=a'):C8 P u tb kt s dQ e y a=C8 P u tb kt s dQ e y' a':=by grind
@[simp]def adp:=qA @C8.eq_2<|@C8.eq_1
@[congr]def adq{z z':Option (List PC)}(h:y=y')(h2:z=z'):Jg tb kt s dQ e y z=Jg tb kt s dQ e y' z':=by grind
@[simp]def adr:=@Jg.eq_1
end
@[simp]def ant{f:Operand}{l:List Operand}:mX P md (.call ⟨.value f,l.toArray,ts⟩) e tb kt=Ac P (l.map e) tb kt (e f).nm:=by simp[mX]
@[simp]def aqN{x:Operand}:mX P md (.call ⟨.builtin .len,#[x],#[t]⟩) e tb kt=jq P (.call ⟨.builtin .len,#[x],#[t]⟩) e (qK kt tb):=(rfl)
@[simp]def aqO{x:Operand}:mX P md (.call ⟨.builtin .cap,#[x],#[t]⟩) e tb kt=jq P (.call ⟨.builtin .cap,#[x],#[t]⟩) e (qK kt tb):=(rfl)
@[simp]def aqP{l:Array Operand}:mX P md (.call ⟨.builtin .min,l,ts⟩) e tb kt=jq P (.call ⟨.builtin .min,l,ts⟩) e (qK kt tb):=(rfl)
@[simp]def aqQ{l:Array Operand}:mX P md (.call ⟨.builtin .max,l,ts⟩) e tb kt=jq P (.call ⟨.builtin .max,l,ts⟩) e (qK kt tb):=(rfl)
@[congr]def aiC{op:Op}{md:Bool}(h:md=md')(h2:tb=a_):mX P md op e tb kt=mX P md' op e a_ kt:=by grind
@[congr]def aiD{op:Op}{md:Bool}{c c':Cls}(h:md=md')(h2:tb=a_)(h3:c=c'):GZ P cx md op e tb kt c=GZ P cx md' op e a_ kt c':=by grind
@[congr]def aiE{op:Op}{k:AV->Prop}{e e':Operand->AV}(h:e=e'):jq P op e k=jq P op e' k:=by rw[h]
@[simp]def arf{op:Op}:GZ P cx md op e tb kt .q=jq P op e (qK kt tb):=(rfl)
@[simp]def ads:=qA @GZ.eq_2<|@GZ.eq_4
@[congr]def agq{l:Nat}{y y':AV}(h:y=y')(h2:x=x'):V0 P cx l t tb kt y x=V0 P cx l t tb kt y' x':=by grind
@[simp]def adt:=@V0.eq_1
@[simp]def apt{x y:Operand}{u:TypeId}:GZ P cx md (.call ⟨.builtin .append,#[x,y],#[t,u]⟩) e tb kt (.f ls)=Ap P u tb kt (e x) (e y).nm (dF P t):=by simp[GZ]
@[simp]def anu{f:Operand}{l:List Operand}:GZ P cx md (.call ⟨.value f,l.toArray,ts⟩) e tb kt (.f ls)=zn P cx ls (l.map e) tb kt (e f).nm:=by simp[GZ]
@[simp]def adu:=qA @GZ.eq_8<|@Jh.eq_1
@[simp]def aiF:keeps cx [] tb0 tb=True:=by simp[keeps]
@[simp]def agr{l:Nat}{kp:List Nat}:keeps cx (l::kp) tb0 tb=(lk (cx.lb l) tb.bx=lk (cx.lb l) tb0.bx/\keeps cx kp tb0 tb):=by simp[keeps]
@[simp]def apu{x:Operand}:jq P (.move x) e k=k (e x):=(rfl)
@[simp]def alx{x:Operand}:jq P (.assign x) e k=k (e x):=(rfl)
@[simp]def apv{a b:Operand}:jq P (.pick c a b) e k=wE k (e a) (e b) (e c).nm:=(rfl)
@[simp]def aqR{x:Operand}:jq P (.box t x) e k=Pb k (e x).nm:=(rfl)
@[simp]def apw{x:Operand}:jq P (.load t x) e k=zK P t k (e x).nm:=(rfl)
@[simp]def adv{x:Operand}{i:Nat}:jq P (.fieldAddr t x i) e k=faO P t i k (e x):=(rfl)
@[simp]def anv{x:Operand}{i:Nat}:jq P (.field t x i) e k=zg P t i k (e x):=(rfl)
@[simp]def adw{x:Tmp}{i:Operand}:jq P (.indexAddr t (.tmp x) i) e k=XI P t k (e (.tmp x)) (e i):=(rfl)
@[simp]def adx:=@jq.eq_1
@[simp]def anw{x i:Operand}:jq P (.index t x i) e k=uY P t k (e x).nm (e i).nm:=(rfl)
@[simp]def ady:=@jq.eq_5
@[congr]def aiG{a a' b b' c c':AV}(h1:a=a')(h2:b=b')(h3:c=c')(h4:x=x'):sl3 P t k a b c x=sl3 P t k a' b' c' x':=by grind
@[simp]def aqS{id f n s:Nat}{m:Option Nat}{k1 k2 k3:IntKind}{l h c:Int}(ht:(aO P t).isSome=true):sl3 P t k (.p (.sc (.int k1 l))) (.p (.sc (.int k2 h))) (.p (.sc (.int k3 c))) (.view id f n s m)=(0<=l/\l<=h/\h<=c/\c<=(n:Int)/\k .any):=by simp[sl3,ht]
@[simp]def adz:=@jq.eq_3
@[simp]def anx{op:BinOp}{t':TypeId}{x y:Operand}:jq P (.binOp op t x y t') e k=zf P op t k (e x) (e y):=(rfl)
@[simp]def apx{op:UnOp}{x:Operand}:jq P (.unOp op t x) e k=wF op k (e x).nm:=(rfl)
@[simp]def aiH{s d:TypeId}{x:Operand}:jq P (.convert s d x) e k=rM P s d k (e x).nm:=(rfl)
@[simp]def RZ{x:Operand}:jq P (.makeInterface t x) e k=uZ P t k (e x):=(rfl)
@[simp]def ags{f:Fn}{cs:List Operand}:jq P (.makeFunc f #[] cs.toArray) e k=fnW f k (cs.map e) (fS (cs.map λy=>(e y).nm)):=by simp[jq,XE,Pa]
@[simp]def agt{x:Operand}:jq P (.sliceToArrayPointer t x) e k=saW P t k (e x).nm:=(rfl)
@[simp]def aiI{f:Fn}{x:Operand}{fs:List Operand}:jq P (.makeFunc f (x::fs).toArray #[]) e k=k (.pK f ((x::fs).map e)):=by simp[jq,XE,Pa]
@[simp]def aiJ{x:Operand}{i:Nat}:jq P (.extract x i) e k=IU i k (e x):=(rfl)
@[simp]def agu{x:Operand}:jq P (.nilCheck x) e k=LH k (e x):=(rfl)
@[simp]def anz{l:List (Nat×Operand)}:jq P (.build t l.toArray) e k=vz P t k (l.map λp=>(p.1,e p.2)):=(rfl)
@[simp]def aaJ{n:Nat}{l:List (Nat×Operand)}:jq P (.buildSlice t n l.toArray) e k=DX P t n k (l.map λp=>(p.1,e p.2)):=(rfl)
@[simp]def aqT{x:Operand}:jq P (.call ⟨.builtin .len,#[x],#[t]⟩) e k=DZ P t k (e x):=by simp[jq]
@[simp]def aqU{x:Operand}:jq P (.call ⟨.builtin .cap,#[x],#[t]⟩) e k=GN P t k (e x):=by simp[jq]
@[simp]def aqV{l:List Operand}:jq P (.call ⟨.builtin .min,l.toArray,ts⟩) e k=KT k (l.map λy=>(e y).nm):=by simp[jq,XE,Pa]
@[simp]def aqW{l:List Operand}:jq P (.call ⟨.builtin .max,l.toArray,ts⟩) e k=KU k (l.map λy=>(e y).nm):=by simp[jq,XE,Pa]
@[simp]def anA{f:Operand}{l:List Operand}:jq P (.call ⟨.value f,l.toArray,ts⟩) e k=yl P k (fS (l.map λy=>(e y).nm)) (e f).nm:=by simp[jq,XE,Pa]
@[congr]def adA{y y' c c':AV}(h1:x=x')(h2:y=y')(h3:c=c'):wE k x y c=wE k x' y' c':=by grind
@[congr]def agv(h:x=x'):Pb k x=Pb k x':=by rw[h]
@[congr]def adB(h:x=x'):zK P t k x=zK P t k x':=by rw[h]
@[congr]def aiK(h:x=x'):glW P t k x=glW P t k x':=by rw[h]
@[congr]def QE{y y':AV}(h:x=x')(h2:y=y'):gQ P t k x y=gQ P t k x' y':=by grind
@[congr]def aiL{i:Nat}(h:x=x'):faO P t i k x=faO P t i k x':=by rw[h]
@[congr]def aiM{y y':AV}(h:x=x')(h2:y=y'):XI P t k x y=XI P t k x' y':=by grind
@[congr]def aiN{lo lo' hi hi':Option AV}(h1:lo=lo')(h2:hi=hi')(h:x=x'):DB P t lo hi k x=DB P t lo' hi' k x':=by grind
@[congr]def agw(h:x=x'):DZ P t k x=DZ P t k x':=by rw[h]
@[congr]def agx(h:x=x'):GN P t k x=GN P t k x':=by rw[h]
@[congr]def aaK{i:Nat}(h:x=x'):zg P t i k x=zg P t i k x':=by rw[h]
@[congr]def agy{i:Nat}(h:x=x'):IU i k x=IU i k x':=by rw[h]
@[congr]def agz(h:x=x'):LH k x=LH k x':=by rw[h]
@[congr]def agA{op:BinOp}{y y':AV}(h:x=x')(h2:y=y'):zf P op t k x y=zf P op t k x' y':=by grind
@[congr]def aaL{y y':AV}(h:x=x')(h2:y=y'):uY P t k x y=uY P t k x' y':=by grind
@[congr]def aaM{lo lo' hi hi':Option AV}(h1:lo=lo')(h2:hi=hi')(h:x=x'):iI P t lo hi k x=iI P t lo' hi' k x':=by grind
@[congr]def aaN{op:BinOp}{y y':AV}(h:x=x')(h2:y=y'):bR P op t k x y=bR P op t k x' y':=by grind
@[congr]def adC{op:UnOp}(h:x=x'):wF op k x=wF op k x':=by rw[h]
@[congr]def adD{s d:TypeId}(h:x=x'):rM P s d k x=rM P s d k x':=by rw[h]
@[congr]def aaO(h:x=x'):uZ P t k x=uZ P t k x':=by rw[h]
@[congr]def aiO{f:Fn}{ys zs:List AV}{x x':Option (List PC)}(hy:ys=zs)(h:x=x'):fnW f k ys x=fnW f k zs x':=by grind
@[congr]def agB{x x':List AV}(h:x=x'):KT k x=KT k x':=by rw[h]
@[congr]def agC{x x':List AV}(h:x=x'):KU k x=KU k x':=by rw[h]
@[congr]def aaP{y y':Option (List PC)}(h2:y=y')(h:x=x'):yl P k y x=yl P k y' x':=by grind
@[congr]def adE{g:FuncId}{xs':List PC}(h:xs=xs'):EP P g xs k=EP P g xs' k:=by rw[h]
@[congr]def aaQ{x x':List (Nat×AV)}(h:x=x'):vz P t k x=vz P t k x':=by rw[h]
@[congr]def aiP(h:x=x'):saW P t k x=saW P t k x':=by rw[h]
@[congr]def aiQ{q:Prop}(h:x=x'):slT P t tb kt q x=slT P t tb kt q x':=by rw[h]
@[congr]def aiR{i:Nat}{x x':Option Ob}{y y':Option (Nat×Nat×Bool)}(h:x=x')(h2:y=y'):slO tb kt i x y=slO tb kt i x' y':=by grind
@[congr]def aiS{i m s s':Nat}{x x':Option (List PC)}(h1:s=s')(h:x=x'):slC tb kt i m s x=slC tb kt i m s' x':=by grind
@[congr]def agD{n:Nat}{x x':List (Nat×AV)}{o o':Option (List PC)}(h:x=x')(h2:o=o'):Ab P t n tb kt x o=Ab P t n tb kt x' o':=by grind
@[congr]def agE{n:Nat}{x x':List (Nat×AV)}{o o':Option (TypeId×Nat×Nat)}(h:x=x')(h2:o=o'):VU t n tb kt x o=VU t n tb kt x' o':=by grind
@[congr]def agF{n sz:Nat}{o o':Option (List AV)}(h2:o=o'):VW t sz n tb kt o=VW t sz n tb kt o':=by grind
@[congr]def agG{n:Nat}{x x':List (Nat×AV)}(h:x=x'):DX P t n k x=DX P t n k x':=by rw[h]
@[congr]def agH(h:x=x'):LQ P t tb kt x=LQ P t tb kt x':=by rw[h]
@[congr]def aaR{x x':Option (List PC)}(h:x=x'):G0 P tb kt x t=G0 P tb kt x' t:=by rw[h]
@[congr]def adF(h:x=x'):loadT P t tb kt x=loadT P t tb kt x':=by rw[h]
@[congr]def aaS{y y':AV}(h:x=x')(h2:y=y'):storeT P t tb kt x y=storeT P t tb kt x' y':=by grind
@[congr]def agI{u:TypeId}{y y':AV}(h:x=x')(h2:y=y')(h3:z=z'):Ap P u tb kt x y z=Ap P u tb kt x' y' z':=by grind
@[congr]def adG{l:List AV}(h:l=l')(h2:x=x'):Ac P l tb kt x=Ac P l' tb kt x':=by grind
@[simp]def apy{x:Operand}{name:String}{l:List Operand}:mX P md (.call ⟨.invoke x name,l.toArray,ts⟩) e tb kt=QF P name (l.map e) tb kt (e x):=by simp[mX]
@[congr]def agJ{name:String}{l:List AV}(h:l=l')(h2:x=x'):QF P name l tb kt x=QF P name l' tb kt x':=by grind
@[simp]def adH:=@QF.eq_1
@[congr]def agK{l:List AV}{o o':Option FuncId}(h:x=x')(h2:l=l')(h3:o=o'):V1 P x l tb kt o=V1 P x' l' tb kt o':=by grind
@[simp]def adI:=@V1.eq_1
def V2{ys l:List AV}{ts:Tb}{r:AV}(h:dm P gf ys ts r ts')(hl:toAll l ys)(hb:aA tb.bx ts.bx)(hr:aA tb.rw ts.rw)(hn:ts.nx=tb.nx)(hk:kt r (tb.merge ts ts')):C9 P gf [] l tb kt:=⟨ys,ts,r,ts',hl,U h,hb,hr,hn,hk⟩
@[congr]def aaT{l:List AV}(h:l=l')(h2:x=x'):zn P cx ls l tb kt x=zn P cx ls l' tb kt x':=by grind
@[congr]def adJ{l:Nat}(h:x=x'):Ji P cx l t tb kt x=Ji P cx l t tb kt x':=by rw[h]
@[congr]def adK{kp:List Nat}{y:AV}(h:x=y)(h2:tb=a_):Jh cx kp tb0 kt x tb=Jh cx kp tb0 kt y a_:=by grind
def jN(P:Program)(gf:FuncId)(caps:List PC)(args:List AV)(tb:Tb)(kt:AV->Tb->Prop):Prop:=(∃xs,fS (args.map AV.nm)=some xs/\EP P gf (xs.map PC.wk++caps) (qK kt tb))\/C9 P gf caps args tb kt\/UW P gf caps args tb kt\/(caps=[]/\akC P gf args tb kt)
@[simp]def aly{l:List AV}:Ac P l tb kt (.p (.fn (.func gf) caps))=jN P gf caps l tb kt:=(rfl)
@[simp]def adL:=@zn.eq_1
def aZ{g:FuncId}(h:nc P g xs r)(hk:k (.p r)):EP P g xs k:=⟨r,h,hk⟩
def agL(caps:List PC):Option (List PC)->Option (List PC)
 |some xs=>some (xs.map PC.wk++caps)
 |none=>none
@[simp]def adM:=@agL.eq_1
def fY{l:List AV}(h:nc P gf ys r)(hl:agL caps (fS (l.map AV.nm))=some ys)(hk:kt (.p r) tb):jN P gf caps l tb kt:=by
 cases hx:fS (l.map AV.nm)with
 |none=>rw[hx]at hl;cases hl
 |some xs=>rw[hx]at hl;injection hl with hl;subst hl;exact .inl ⟨xs,hx,r,h,hk⟩
def cm{l:List AV}(h:nc P gf ys r)(hk:kt (.p r) tb)(hl:agL caps (fS (l.map AV.nm))=some ys:=by simp):jN P gf caps l tb kt:=fY h hl hk
def aN{ys l:List AV}{ts:Tb}{r:AV}(h:dm P gf ys ts r ts')(hl:toAll l ys)(hb:aA tb.bx ts.bx)(hr:aA tb.rw ts.rw)(hn:ts.nx=tb.nx)(hk:kt r (tb.merge ts ts')):jN P gf [] l tb kt:= .inr<| .inl ⟨ys,ts,r,ts',hl,U h,hb,hr,hn,hk⟩
def oM{ys l:List AV}{ts:Tb}{r:AV}(h:dm P gf ys ts r ts')(hn:ts.nx=tb.nx)(hk:kt r (tb.merge ts ts'))(hl:toAll l ys:=by simp)(hb:aA tb.bx ts.bx:=by simp[aA])(hr:aA tb.rw ts.rw:=by trivial):jN P gf [] l tb kt:=aN h hl hb hr hn hk
def ua{ys l:List AV}{ts:Tb}{r:AV}(h:dm P gf ys ts r ts')(hl:toAll l ys)(hb:aA tb.bx ts.bx)(hr:aA tb.rw ts.rw)(hn:ts.nx=tb.nx)(hf:∀l∈ls,lk (cx.lb l) ts.bx=none/\lk (cx.lb l) ts'.bx=none)(hk:kt r (tb.merge ts ts')):V3 P cx ls gf [] l tb kt:=⟨ys,ts,r,ts',hl,U h,hb,hr,hn,hf,hk⟩
def V4{zs ys l:List AV}{ts:Tb}{r:AV}(h:dm P gf zs ts r ts')(hz:zs=ys++caps.map .p)(hl:toAll l ys)(hb:aA tb.bx ts.bx)(hr:aA tb.rw ts.rw)(hn:ts.nx=tb.nx)(hk:kt r (tb.merge ts ts')):jN P gf caps l tb kt:= .inr<| .inl ⟨ys,ts,r,ts',hl,hz▸h,hb,hr,hn,hk⟩
def bZ{l:List AV}(h:nc P gf ys r)(hl:j_ (dA tb.bx 4) l ys)(hr:r.flat=true)(hk:kt (.p r) tb):jN P gf [] l tb kt:= .inr<| .inr<| .inl ⟨ys,r,4,hl,U h,hr,hk⟩
def tJ(n:Nat){l:List AV}(h:nc P gf ys r)(hl:j_ (dA tb.bx n) l ys)(hr:r.flat=true)(hk:kt (.p r) tb):jN P gf [] l tb kt:= .inr<| .inr<| .inl ⟨ys,r,n,hl,U h,hr,hk⟩
def sC{l:List AV}(h:Lw P gf){id n s:Nat}{m:Option Nat}{y:AV}{ob:Ob}(ha:l=[.view id o n s m,y]\/l=[y,.view id o n s m])(hl:lk id tb.bx=some ob)(hsz:ob.sz=s)(hs:0<s)(UY:ob.el<1000000)(hy:uz y.nm)(hk:kt (.p (.bool false)) tb):jN P gf [] l tb kt:= .inr<| .inr<| .inr ⟨rfl,.inl ⟨h,hk,id,o,n,s,m,y,ob,ha,hl,hsz,hs,UY,hy⟩⟩
def Uq{l:List AV}(h:Zn P gf xs r)(hl:fS (l.map AV.nm)=some xs)(hk:kt (.p r) tb):jN P gf [] l tb kt:= .inr<| .inr<| .inr ⟨rfl,.inr ⟨xs,r,hl,h,hk⟩⟩
end
end Go.Av
