/- TiersAgain, part 8: an abstract interpreter over any program's form, with its proof of soundness; no condition. -/
import Derived.Test.YtgkdpbambfgahaaGreatDoorWag
set_option linter.all false
set_option maxRecDepth 100000
set_option maxHeartbeats 64000000
namespace Go.Av
open Go.RowKit
variable{y':AV}{op:BinOp}{a b:Bool}{ps:List (Nat×AV)}{ys z:List PC}{o off:Nat}{g:Option (List AV)}{hi lo:Option AV}{v:Value}
section
variable{P:Program}{Q:Exit->AS->Prop}{k:AV->Prop}{st:AS}
@[simp]def apR(l:aF):bs (ByteArray.mk l.toArray)=l:=(rfl)
@[simp]def apS{x y:AV}:wE k x y (.p (.sc (.bool true)))=k x:=by simp[wE]
@[simp]def apT{x y:AV}:wE k x y (.p (.sc (.bool false)))=k y:=by simp[wE]
@[simp]def abt:=@Pb.eq_1
@[simp]def al7:PC.width (.sc v)=1:=(rfl)
@[simp]def ai6:PC.width .nil=1:=(rfl)
@[simp]def al8{xs:List PC}:PC.width (.sl xs)=1:=(rfl)
@[simp]def abu:=@PC.width.eq_1
@[simp]def anD{t:TypeId}:fits P t (.sc v)=(bS P t==some false):=(rfl)
@[simp]def anE{t:TypeId}{v:List PC}:fits P t (.sl v)=(bS P t==some false):=(rfl)
@[simp]def al9{t:TypeId}{v:PC}:fits P t (.ref v)=(bS P t==some false):=(rfl)
@[simp]def anF{t:TypeId}{f:Fn}{v:List PC}:fits P t (.fn f v)=(bS P t==some false):=(rfl)
@[simp]def abv:=@fits.eq_1
def JW(k:AV->Prop)(y:PC)(b:Bool):Prop:=b=true/\k (.p y)
@[congr]def adU{y:PC}{c:Bool}(h:b=c):JW k y b=JW k y c:=by rw[h]
@[simp]def al_{t:TypeId}{y:PC}:zK P t k (.p (.ref y))=JW k y (fits P t y):=(rfl)
@[simp]def anG{y:PC}:JW k y true=k (.p y):=by simp[JW]
def faA(k:AV->Prop)(xs:List PC):Option (Nat×Nat×Bool)->Prop
 |some (off,s,a)=>match part off s a xs with
  |some y=>s≠0/\k (.p (.ref y))
  |none=>False
 |none=>False
def faB(k:AV->Prop)(s:Nat):Option PC->Prop
 |some y=>s≠0/\k (.p (.ref y))
 |none=>False
@[congr]def ai7{xs:List PC}{f g:Option (Nat×Nat×Bool)}(h:xs=ys)(h2:f=g):faA k xs f=faA k ys g:=by grind
@[congr]def ai8{s:Nat}{f g:Option PC}(h2:f=g):faB k s f=faB k s g:=by grind
@[simp]def XP{t:TypeId}{i:Nat}{xs:List PC}:qO P t i k (.p (.ref (.agg false xs)))=faA k xs (dw P t i):=(rfl)
@[simp]def al'{xs:List PC}{s:Nat}:faA k xs (some (off,s,a))=faB k s (part off s a xs):=(rfl)
@[simp]def ama{s:Nat}{y:PC}:faB k (s+1) (some y)=k (.p (.ref y)):=by simp[faB]
def fiA(k:AV->Prop)(xs:List PC):Option (Nat×Nat×Bool)->Prop
 |some (off,s,a)=>match part off s a xs with
  |some y=>k (.p y)
  |none=>False
 |none=>False
def Xd(k:AV->Prop):Option PC->Prop
 |some y=>k (.p y)
 |none=>False
@[congr]def ai9{xs:List PC}{f g:Option (Nat×Nat×Bool)}(h:xs=ys)(h2:f=g):fiA k xs f=fiA k ys g:=by grind
@[congr]def aho{f g:Option PC}(h2:f=g):Xd k f=Xd k g:=by grind
@[simp]def ai_{t:TypeId}{i:Nat}{xs:List PC}:BL P t i k (.p (.agg false xs))=fiA k xs (dw P t i):=(rfl)
@[simp]def amb{xs:List PC}{s:Nat}:fiA k xs (some (off,s,a))=Xd k (part off s a xs):=(rfl)
@[simp]def abw:=@Xd.eq_1
@[simp]def amc{xs:List PC}:part off 1 false xs=xs[off]?:=(rfl)
@[simp]def amd{s:Nat}{xs:List PC}:part off s true xs=if off+s<=xs.length then some (.agg false ((xs.drop off).take s))else none:=(rfl)
def iaA(P:Program)(t:TypeId)(k:AV->Prop)(n:Int):Option PC->Prop
 |some y=>0<=n/\aO P t=some y.width/\k (.p (.ref y))
 |none=>False
@[congr]def ai'{t:TypeId}{n:Int}{f g:Option PC}(h2:f=g):iaA P t k n f=iaA P t k n g:=by grind
@[simp]def abx{t:TypeId}{xs:List PC}{c:IntKind}{n:Int}:gQ P t k (.p (.sl xs)) (.p (.sc (.int c n)))=iaA P t k n (xs[n.toNat]?):=by
 cases hz:xs[n.toNat]?<;>simp only[gQ,iaA,hz,and_false]
@[simp]def ame{t:TypeId}{n:Int}{y:PC}(h0:0<=n)(h:aO P t=some y.width):iaA P t k n (some y)=k (.p (.ref y)):=by simp[iaA,h0,h]
def ixA(P:Program)(t:TypeId)(k:AV->Prop)(n:Int):Option UInt8->Prop
 |some c=>0<=n/\isStr P t=true/\k (.p (.sc (.int .u8 c.toNat)))
 |none=>False
@[congr]def aja{t:TypeId}{n:Int}{f g:Option UInt8}(h2:f=g):ixA P t k n f=ixA P t k n g:=by grind
@[simp]def ajb{t:TypeId}{s:ByteArray}{c:IntKind}{n:Int}:uY P t k (.p (.sc (.string s))) (.p (.sc (.int c n)))=ixA P t k n ((bs s)[n.toNat]?):=by
 cases hz:(bs s)[n.toNat]?<;>simp only[uY,ixA,hz,and_false]
@[simp]def amf{t:TypeId}{n:Int}{c:UInt8}(h0:0<=n)(h:isStr P t=true):ixA P t k n (some c)=k (.p (.sc (.int .u8 c.toNat))):=by simp[ixA,h0,h]
@[simp]def adV{i:Nat}{xs:List PC}:sH i k (.p (.agg true xs))=Xd k (xs[i]?):=(rfl)
@[simp]def ajc{t:TypeId}{s:ByteArray}{c:IntKind}{i:Int}(h:isStr P t=true):iI P t (some (.p (.sc (.int c i)))) none k (.p (.sc (.string s)))=(0<=i/\i.toNat<=(bs s).length/\k (.p (.str ((bs s).drop i.toNat)))):=by
 simp[iI,FI,rW,rX,h]
@[simp]def ajd{t:TypeId}{s:ByteArray}{d:IntKind}{j:Int}(h:isStr P t=true):iI P t none (some (.p (.sc (.int d j)))) k (.p (.sc (.string s)))=(0<=j/\j.toNat<=(bs s).length/\k (.p (.str ((bs s).take j.toNat)))):=by
 simp[iI,FI,rW,rX,h]
@[simp]def aje{t:TypeId}{xs:List PC}{c:IntKind}{i:Int}(h:(aO P t).isSome=true):iI P t (some (.p (.sc (.int c i)))) none k (.p (.sl xs))=((∀y∈xs,aO P t=some y.width)/\0<=i/\i.toNat<=xs.length/\k (.p (.sl (xs.drop i.toNat)))):=by
 simp[iI,FI,rW,rX,h]
@[simp]def ajf{t:TypeId}{xs:List PC}{d:IntKind}{j:Int}(h:(aO P t).isSome=true):iI P t none (some (.p (.sc (.int d j)))) k (.p (.sl xs))=((∀y∈xs,aO P t=some y.width)/\0<=j/\j.toNat<=xs.length/\k (.p (.sl (xs.take j.toNat)))):=by
 simp[iI,FI,rW,rX,h]
@[simp]def ajg{t:TypeId}{xs:List PC}{c d:IntKind}{i j:Int}(h:(aO P t).isSome=true):iI P t (some (.p (.sc (.int c i)))) (some (.p (.sc (.int d j)))) k (.p (.sl xs))=((∀y∈xs,aO P t=some y.width)/\0<=i/\0<=j/\i.toNat<=j.toNat/\j.toNat<=xs.length/\k (.p (.sl ((xs.take j.toNat).drop i.toNat)))):=by simp[iI,FI,rW,rX,h]
section
variable{t:TypeId}{c d:IntKind}{x y:Int}
@[simp]def anH:bR P .add t k (.p (.sc (.int c x))) (.p (.sc (.int c y)))=k (.p (.sc (.int c (c.wrap (x+y))))):=by simp[bR,jT]
@[simp]def anI:bR P .sub t k (.p (.sc (.int c x))) (.p (.sc (.int c y)))=k (.p (.sc (.int c (c.wrap (x-y))))):=by simp[bR,jT]
@[simp]def anJ:bR P .mul t k (.p (.sc (.int c x))) (.p (.sc (.int c y)))=k (.p (.sc (.int c (c.wrap (x*y))))):=by simp[bR,jT]
@[simp]def anK:bR P .quo t k (.p (.sc (.int c x))) (.p (.sc (.int c y)))=(y≠0/\k (.p (.sc (.int c (c.wrap (x.tdiv y)))))):=by simp[bR,jT]
@[simp]def anL:bR P .rem t k (.p (.sc (.int c x))) (.p (.sc (.int c y)))=(y≠0/\k (.p (.sc (.int c (x.tmod y))))):=by simp[bR,jT]
@[simp]def anM:bR P .and t k (.p (.sc (.int c x))) (.p (.sc (.int c y)))=k (.p (.sc (.int c (bits .and c x y)))):=by simp[bR,jT]
@[simp]def apU:bR P .or t k (.p (.sc (.int c x))) (.p (.sc (.int c y)))=k (.p (.sc (.int c (bits .or c x y)))):=by simp[bR,jT]
@[simp]def anN:bR P .xor t k (.p (.sc (.int c x))) (.p (.sc (.int c y)))=k (.p (.sc (.int c (bits .xor c x y)))):=by simp[bR,jT]
@[simp]def anO:bR P .shl t k (.p (.sc (.int c x))) (.p (.sc (.int d y)))=(0<=y/\k (.p (.sc (.int c (c.wrap (x*2^min y.toNat c.bits)))))):=by simp[bR,jT]
@[simp]def anP:bR P .shr t k (.p (.sc (.int c x))) (.p (.sc (.int d y)))=(0<=y/\k (.p (.sc (.int c (x.fdiv (2^min y.toNat c.bits)))))):=by simp[bR,jT]
@[simp]def anQ:bR P .eql t k (.p (.sc (.int c x))) (.p (.sc (.int c y)))=k (.p (.sc (.bool (x==y)))):=by simp[bR,jT]
@[simp]def anR:bR P .neq t k (.p (.sc (.int c x))) (.p (.sc (.int c y)))=k (.p (.sc (.bool (x !=y)))):=by simp[bR,jT]
@[simp]def anS:bR P .lss t k (.p (.sc (.int c x))) (.p (.sc (.int c y)))=k (.p (.sc (.bool (decide (x<y))))):=by simp[bR,jT]
@[simp]def anT:bR P .leq t k (.p (.sc (.int c x))) (.p (.sc (.int c y)))=k (.p (.sc (.bool (decide (x<=y))))):=by simp[bR,jT]
@[simp]def anU:bR P .gtr t k (.p (.sc (.int c x))) (.p (.sc (.int c y)))=k (.p (.sc (.bool (decide (y<x))))):=by simp[bR,jT]
@[simp]def anV:bR P .geq t k (.p (.sc (.int c x))) (.p (.sc (.int c y)))=k (.p (.sc (.bool (decide (y<=x))))):=by simp[bR,jT]
end
section
variable{t:TypeId}{x y:ByteArray}
@[simp]def amg:bR P .add t k (.p (.sc (.string x))) (.p (.sc (.string y)))=((bs x).length+(bs y).length<=9223372036854775807/\k (.p (.str (bs x++bs y)))):=by simp[bR,jT]
@[simp]def amh:bR P .eql t k (.p (.sc (.string x))) (.p (.sc (.string y)))=k (.p (.sc (.bool (bs x==bs y)))):=by simp[bR,jT]
@[simp]def ami:bR P .neq t k (.p (.sc (.string x))) (.p (.sc (.string y)))=k (.p (.sc (.bool (bs x !=bs y)))):=by simp[bR,jT]
@[simp]def amj:bR P .lss t k (.p (.sc (.string x))) (.p (.sc (.string y)))=k (.p (.sc (.bool (Op.bytesLess (bs x) (bs y))))):=by simp[bR,jT]
@[simp]def amk:bR P .leq t k (.p (.sc (.string x))) (.p (.sc (.string y)))=k (.p (.sc (.bool (Op.bytesLess (bs x) (bs y)||bs x==bs y)))):=by simp[bR,jT]
@[simp]def aml:bR P .gtr t k (.p (.sc (.string x))) (.p (.sc (.string y)))=k (.p (.sc (.bool !(Op.bytesLess (bs x) (bs y)||bs x==bs y)))):=by simp[bR,jT]
@[simp]def amm:bR P .geq t k (.p (.sc (.string x))) (.p (.sc (.string y)))=k (.p (.sc (.bool !(Op.bytesLess (bs x) (bs y))))):=by simp[bR,jT]
end
@[simp]def amn{t:TypeId}{x y:Bool}(h:isBool P t=true):bR P .neq t k (.p (.sc (.bool x))) (.p (.sc (.bool y)))=k (.p (.sc (.bool (x !=y)))):=by simp[bR,jT,h]
@[simp]def apV:wF .not k (.p (.sc (.bool b)))=k (.p (.sc (.bool !b))):=by simp[wF]
@[simp]def apW{c:IntKind}{n:Int}:wF .xor k (.p (.sc (.int c n)))=k (.p (.sc (.int c (bits .xor c (if c.signed then-1 else c.max) n)))):=by simp[wF]
@[simp]def aby:=qA @saW.eq_1<|@saA.eq_1
def cvI(k:AV->Prop)(n:Int):Option IntKind->Prop
 |some c=>k (.p (.sc (.int c (c.wrap n))))
 |none=>False
@[congr]def ajh{n:Int}{f g:Option IntKind}(h2:f=g):cvI k n f=cvI k n g:=by grind
@[simp]def amo{s d:TypeId}{c:IntKind}{n:Int}(h:Av.isSome P s=true):rM P s d k (.p (.sc (.int c n)))=cvI k n (Av.intOf P d):=by
 unfold rM cvI;generalize Av.intOf P d=z;cases z<;>simp[h]
@[simp]def abz:=@cvI.eq_1
def JX{a b:aF}(h:af a=af b):a=b:=by
 induction a generalizing b with
 |nil=>cases b<;>simp_all [af]
 |cons x a ih=>
  cases b with
  |nil=>simp[af]at h
  |cons y b=>
   simp only[af,dB,List.cons.injEq,PC.sc.injEq,Value.int.injEq,true_and]at h;have e:x=y:=by grind [UInt8.toNat_inj]
   rw[e,ih h.2]
@[simp]def anW{s d:TypeId}{l:aF}(h:fT P s=true)(h2:isStr P d=true):rM P s d k (.p (.sl (af l)))=k (.p (.str l)):=by
 simp only[rM,h,h2,true_and];apply propext;constructor
 .rintro⟨l',e,hk⟩;rw[JX e];exact hk
 .intro hk;exact⟨l,rfl,hk⟩
@[simp]def ahp{t:TypeId}{i f:Nat}(h:Av.isSome P t=true)(h2:isIface P t=false):uZ P t k (.obj i f)=k (.o_ t (.obj i f)):=by simp[uZ,h,h2]
def Xe(x:PC):Option (List PC)->Option (List PC)
 |some r=>some (x::r)
 |none=>none
@[simp]def abA:=@fS.eq_1
@[simp]def aji{x:PC}{l:List AV}:fS (.p x::l)=Xe x (fS l):=by simp only[fS,Xe];generalize fS l=z;cases z<;>rfl
@[simp]def abB:=qA @Xe.eq_1<|qA @fnW.eq_1<|qA @fnW.eq_2<|@Tg.eq_1
@[simp]def anX{t:TypeId}{s:ByteArray}(h:isStr P t=true):yj P t k (.p (.sc (.string s)))=k (.p (.sc (.int .i64 ((bs s).length:Nat)))):=by simp[yj,h]
@[simp]def len_nil{t:TypeId}(h:(aO P t).isSome=true):yj P t k (.p .nil)=k (.p (.sc (.int .i64 0))):=by simp[yj,h]
@[simp]def S8{t:TypeId}{xs:List PC}(h:(aO P t).isSome=true):yj P t k (.p (.sl xs))=k (.p (.sc (.int .i64 (xs.length:Nat)))):=by simp[yj,h]
@[simp]def anY{c:IntKind}{x y:Int}:KT k [.p (.sc (.int c x)),.p (.sc (.int c y))]=k (.p (.sc (.int c (if y<x then y else x)))):=by simp[KT]
@[simp]def anZ{c:IntKind}{x y:Int}:KU k [.p (.sc (.int c x)),.p (.sc (.int c y))]=k (.p (.sc (.int c (if y>x then y else x)))):=by simp[KU]
@[simp]def abC:=@yl.eq_1
@[simp]def aqY:PC.wk (.sc v)= .sc v:=(rfl)
@[simp]def abD:=@PC.wk.eq_1
@[simp]def aqZ{xs:List PC}:PC.wk (.sl xs)= .sl xs:=(rfl)
@[simp]def apX{x:PC}:PC.wk (.ref x)= .ref x:=(rfl)
@[simp]def aq0{f:Fn}{xs:List PC}:PC.wk (.fn f xs)= .fn f xs:=(rfl)
@[simp]def abE:=@PC.wk.eq_2
@[simp]def apY:PC.Yz (.sc v)= .sc v:=(rfl)
@[simp]def abF:=@PC.Yz.eq_1
@[simp]def apZ{xs:List PC}:PC.Yz (.sl xs)= .sl xs:=(rfl)
@[simp]def an0{x:PC}:PC.Yz (.ref x)= .ref x:=(rfl)
attribute [simp] Value.oneCell'
variable{kt:AV->Tb->Prop}{tb:Tb}{cx:Cx}
def faG(k:AV->Prop)(id off:Nat):Option (Nat×Nat×Bool)->Prop
 |some (o,s,_)=>s≠0/\k (.obj id (off+o))
 |none=>False
@[congr]def ajj{id:Nat}{f g:Option (Nat×Nat×Bool)}(h:f=g):faG k id off f=faG k id off g:=by rw[h]
@[simp]def an1{t:TypeId}{i id:Nat}:faO P t i k (.obj id off)=faG k id off (dw P t i):=by
 simp only[faO,faG];cases dw P t i<;>rfl
@[simp]def amq{id s:Nat}:faG k id off (some (o,s+1,a))=k (.obj id (off+o)):=by simp[faG]
@[simp]def aq1{t:TypeId}{i:Nat}{x:PC}:faO P t i k (.p x)=qO P t i k (.p x):=(rfl)
@[simp]def amr{t:TypeId}{id f n s:Nat}{m:Option Nat}{c:IntKind}{j:Int}(h:aO P t=some s):XI P t k (.view id f n s m) (.p (.sc (.int c j)))=(0<=j/\j<(n:Int)/\k (.obj id ((f+j.toNat)*s))):=by simp[XI,h]
@[simp]def abG:=@glW.eq_1
@[simp]def aq2{t:TypeId}{x:PC}{y:AV}:XI P t k (.p x) y=gQ P t k (.p x) y.nm:=(rfl)
@[simp]def an2{t:TypeId}{i:Nat}{x:List PC}{y:AV}:XI P t k (.own i x) y=gQ P t k (.p (.sl x)) y.nm:=(rfl)
@[simp]def ams{t:TypeId}{x:List PC}{y:AV}:XI P t k (.full x) y=gQ P t k (.p (.sl x)) y.nm:=(rfl)
@[simp]def ap0{t:TypeId}{x:Value}:DB P t lo hi k (.p (.sc x))=iI P t lo hi k (.p (.sc x)):=(rfl)
@[simp]def ap1{t:TypeId}{x:List PC}:DB P t lo hi k (.p (.sl x))=iI P t lo hi k (.p (.sl x)):=(rfl)
@[simp]def an3{t:TypeId}{c:IntKind}{i:Int}(h:(aO P t).isSome=true):DB P t none (some (.p (.sc (.int c i)))) k (.p .nil)=(0<=i/\i.toNat<=0/\k (.p .nil)):=by simp[DB,zj,rW,rX,h]
@[simp]def an4{t:TypeId}{i:Nat}{x:List PC}:DB P t lo hi k (.own i x)=iI P t lo hi k (.p (.sl x)):=(rfl)
@[simp]def amt{t:TypeId}{x:List PC}:DB P t lo hi k (.full x)=iI P t lo hi k (.p (.sl x)):=(rfl)
section
variable{t:TypeId}{id f n s m:Nat}{c d:IntKind}{i j:Int}
@[simp]def an5(h:aO P t=some s):DB P t (some (.p (.sc (.int c i)))) none k (.view id f n s (some m))=(f<=m/\0<=i/\i.toNat<=n/\n<=m-f/\k (.view id (f+i.toNat) (n-i.toNat) s (some m))):=by simp[DB,zj,rW,rX,h]
@[simp]def an6(h:aO P t=some s):DB P t none (some (.p (.sc (.int d j)))) k (.view id f n s (some m))=(f<=m/\0<=j/\j.toNat<=m-f/\k (.view id f j.toNat s (some m))):=by simp[DB,zj,rW,rX,h]
@[simp]def an7(h:aO P t=some s):DB P t (some (.p (.sc (.int c i)))) (some (.p (.sc (.int d j)))) k (.view id f n s (some m))=(f<=m/\0<=i/\0<=j/\i.toNat<=j.toNat/\j.toNat<=m-f/\k (.view id (f+i.toNat) (j.toNat-i.toNat) s (some m))):=by simp[DB,zj,rW,rX,h]
@[simp]def an8(h:aO P t=some s):DB P t (some (.p (.sc (.int c i)))) none k (.view id f n s none)=(0<=i/\i.toNat<=n/\k (.view id (f+i.toNat) (n-i.toNat) s none)):=by simp[DB,zj,rW,rX,h]
@[simp]def an9(h:aO P t=some s):DB P t none (some (.p (.sc (.int d j)))) k (.view id f n s none)=(0<=j/\j.toNat<=n/\k (.view id f j.toNat s none)):=by simp[DB,zj,rW,rX,h]
@[simp]def an_(h:aO P t=some s):DB P t (some (.p (.sc (.int c i)))) (some (.p (.sc (.int d j)))) k (.view id f n s none)=(0<=i/\0<=j/\i.toNat<=j.toNat/\j.toNat<=n/\k (.view id (f+i.toNat) (j.toNat-i.toNat) s none)):=by simp[DB,zj,rW,rX,h]
end
@[simp]def ap2{t:TypeId}{x:PC}:DZ P t k (.p x)=yj P t k (.p x):=(rfl)
@[simp]def amu{t:TypeId}{i:Nat}{x:List PC}:DZ P t k (.own i x)=yj P t k (.p (.sl x)):=(rfl)
@[simp]def ajk{t:TypeId}{x:List PC}:DZ P t k (.full x)=yj P t k (.p (.sl x)):=(rfl)
@[simp]def ajl{t:TypeId}{id f n s:Nat}{m:Option Nat}(h:(aO P t).isSome=true):DZ P t k (.view id f n s m)=k (.p (.int n)):=by simp[DZ,h]
@[simp]def amv{t:TypeId}(h:(aO P t).isSome=true):GN P t k (.p .nil)=k (.p (.int 0)):=by simp[GN,h]
@[simp]def adW{id f n s m:Nat}:xm (.view id f n s (some (m+1)))=some false:=by cases n<;>rfl
@[simp]def ajm{t:TypeId}{id f n s m:Nat}(h:(aO P t).isSome=true):GN P t k (.view id f n s (some m))=k (.p (.int ((m-f:Nat):Int))):=by simp[GN,h]
def Xf(k:AV->Prop):Option AV->Prop
 |some y=>k y
 |none=>False
@[congr]def ahq{f g:Option AV}(h2:f=g):Xf k f=Xf k g:=by grind
@[simp]def abH:=@Xf.eq_1
@[simp]def amw{t:TypeId}{i:Nat}{x:PC}:zg P t i k (.p x)=BL P t i k (.p x):=(rfl)
@[simp]def ajn{xs:List AV}:nL off 1 false xs=xs[off]?:=(rfl)
@[simp]def ajo{s:Nat}{xs:List AV}:nL off s true xs=if off+s<=xs.length then some (.agg false ((xs.drop off).take s))else none:=(rfl)
@[simp]def amx{i:Nat}{xs:List AV}:IU i k (.agg true xs)=Xf k (xs[i]?):=by
 simp only[IU,Xf];cases xs[i]?<;>rfl
@[simp]def ap3{i:Nat}{x:PC}:IU i k (.p x)=sH i k (.p x):=(rfl)
@[simp]def abJ:=@LH.eq_1
@[simp]def ap4{x:PC}:LH k (.p x)=Tg k (.p x):=(rfl)
@[simp]def amy{t:TypeId}{x:AV}{c:IntKind}{n:Int}:zf P op t k x (.p (.sc (.int c n)))=bR P op t k x.nm (.p (.sc (.int c n))):=(rfl)
@[simp]def amA{t:TypeId}{x:AV}{s:ByteArray}:zf P op t k x (.p (.sc (.string s)))=bR P op t k x.nm (.p (.sc (.string s))):=(rfl)
@[simp]def ajp{t:TypeId}{x:AV}:zf P op t k x (.p (.sc (.bool b)))=bR P op t k x.nm (.p (.sc (.bool b))):=(rfl)
@[simp]def ajq{t:TypeId}{x:AV}{xs:List PC}:zf P op t k x (.p (.agg b xs))=LG P op t k (.p (.agg b xs)) x.nm:=(rfl)
@[congr]def ahr{t:TypeId}{x x' y:AV}(h:x=x')(h2:y=y'):LG P op t k x y=LG P op t k x' y':=by grind
@[simp]def amB{t:TypeId}{xs:List PC}(h:uB P t=true):LG P op t k (.p (.agg false ys)) (.p (.agg false xs))=vw k op (eqL P xs ys (DJ P t)):=by simp only[LG,h,true_and]
def eqA:Option Bool->Option Bool->Option Bool
 |some a,some b=>some (a&&b)
 |_,_=>none
def eqB(P:Program)(t:TypeId):Option PC->Option PC->Option Bool
 |some x,some y=>Yq P t x y
 |_,_=>none
@[simp]def abK:=qA @eqL.eq_1<|@Xz.eq_1
@[simp]def amC{xs:List PC}{t:TypeId}{l:List (Nat×TypeId)}:Xz P xs ys ((o,t)::l)=eqA (eqB P t xs[o]? ys[o]?) (Xz P xs ys l):=by
 simp only[Xz];cases xs[o]?<;>cases ys[o]?<;>simp only[eqB,eqA];rename_i x y;cases Yq P t x y<;>cases Xz P xs ys l<;>rfl
@[simp]def abL:=qA @eqA.eq_1<|@eqB.eq_1
@[simp]def an'{t:TypeId}{c:IntKind}{a b:Int}(h:Av.intOf P t=some c):Yq P t (.sc (.int c a)) (.sc (.int c b))=some (a==b):=by simp[Yq,h]
@[simp]def aoa{t:TypeId}{a b:ByteArray}(h:isStr P t=true):Yq P t (.sc (.string a)) (.sc (.string b))=some (bs a==bs b):=by simp[Yq,h]
@[simp]def amD{t:TypeId}{x:AV}(h:(aO P t).isSome=true):zf P op t k x (.p .nil)=vw k op (xm x):=by simp[zf,h]
@[simp]def amE{t:TypeId}{x:AV}(h:uD P t=true):zf P op t k x (.p (.sc (.pointer none)))=vw k op (vv x):=by simp[zf,h]
@[congr]def ahs{f g:Option Bool}(h:f=g):vw k op f=vw k op g:=by rw[h]
@[simp]def amF:vw k .eql (some b)=k (.p (.bool b)):=by simp[vw]
@[simp]def amG:vw k .neq (some b)=k (.p (.bool !b)):=by simp[vw]
@[simp]def abM:=qA @xm.eq_1<|qA @xm.eq_5<|@vv.eq_3
def Rs(P:Program)(t:TypeId)(k:AV->Prop)(ps:List (Nat×AV)):Option (List PC)->Prop
 |some z=>match rP P t (z.map .p) ps with
  |some zs=>k (.agg false zs)
  |none=>False
 |none=>False
def Xg(k:AV->Prop):Option (List AV)->Prop
 |some zs=>k (.agg false zs)
 |none=>False
@[congr]def aht{t:TypeId}{ps':List (Nat×AV)}{f g:Option (List PC)}(h:ps=ps')(h2:f=g):Rs P t k ps f=Rs P t k ps' g:=by grind
@[congr]def ahu{f:Option (List AV)}(h2:f=g):Xg k f=Xg k g:=by grind
@[simp]def amH{t:TypeId}(h:bL P t=true):vz P t k ps=Rs P t k ps (bX P t):=by
 simp only[vz,Rs,h,true_and];cases bX P t<;>rfl
@[simp]def ajr{t:TypeId}:Rs P t k ps (some z)=Xg k (rP P t (z.map .p) ps):=by
 simp only[Rs,Xg]
@[simp]def abN:=@Xg.eq_1
def JY(P:Program)(t:TypeId)(cs:List AV)(rest:List (Nat×AV)):Option (Nat×Nat)->Option (List AV)->Option (List AV)
 |some (off,s),some zs=>if zs.length=s/\off+s<=cs.length then rP P t (cs.take off++zs++cs.drop (off+s)) rest else none
 |_,_=>none
@[congr]def adX{t:TypeId}{cs cs':List AV}{rest:List (Nat×AV)}{f f':Option (Nat×Nat)}{g':Option (List AV)}(h:cs=cs')(h2:f=f')(h3:g=g'):JY P t cs rest f g=JY P t cs' rest f' g':=by grind
@[simp]def abO:=@rP.eq_1
@[simp]def ahv{t:TypeId}{cs:List AV}{i:Nat}{v:AV}{rest:List (Nat×AV)}:rP P t cs ((i,v)::rest)=JY P t cs rest (aT P t i) v.dW:=by
 simp only[rP,JY];cases aT P t i with
 |none=>rfl
 |some q=>cases v.dW<;>rfl
@[simp]def abP:=@JY.eq_1
@[simp]def amI:AV.dW (.p (.sc v))=some [.p (.sc v)]:=(rfl)
@[simp]def ajs:AV.dW (.p .nil)=some [.p .nil]:=(rfl)
@[simp]def amJ{xs:List PC}:AV.dW (.p (.sl xs))=some [.p (.sl xs)]:=(rfl)
@[simp]def abQ:=@AV.dW.eq_1
@[simp]def ajt{i:Nat}:AV.dW (.obj i o)=some [.obj i o]:=(rfl)
@[simp]def aju{i:Nat}{xs:List PC}:AV.dW (.own i xs)=some [.own i xs]:=(rfl)
@[simp]def ahw{xs:List PC}:AV.dW (.full xs)=some [.full xs]:=(rfl)
@[simp]def ahx{id f n s:Nat}{m:Option Nat}:AV.dW (.view id f n s m)=some [.view id f n s m]:=(rfl)
@[simp]def abR:=@AV.dW.eq_3
def Rt(P:Program)(n:Nat)(k:AV->Prop)(ps:List (Nat×AV)):Option (TypeId×Nat×Nat)->Prop
 |some (_,sz,_)=>0<sz/\bW 0 ps=true/\ps.length=n/\n*sz<=16777216/\match fS (ps.map λp=>p.2.nm)with
  |some ys=>ys.all (λy=>y.width==sz&&cE y)=true/\k (.full ys)
  |none=>False
 |none=>False
def Xh(k:AV->Prop)(sz:Nat):Option (List PC)->Prop
 |some ys=>ys.all (λy=>y.width==sz&&cE y)=true/\k (.full ys)
 |none=>False
@[congr]def ahy{n:Nat}{ps':List (Nat×AV)}{f g:Option (TypeId×Nat×Nat)}(h:ps=ps')(h2:f=g):Rt P n k ps f=Rt P n k ps' g:=by grind
@[congr]def ahz{sz:Nat}{f g:Option (List PC)}(h2:f=g):Xh k sz f=Xh k sz g:=by grind
@[simp]def aq3{t:TypeId}{n:Nat}:DX P t n k ps=Rt P n k ps (dF P t):=by
 simp only[DX,Rt];cases dF P t<;>rfl
@[simp]def ajv{n:Nat}{e:TypeId}{sz dQ:Nat}:Rt P n k ps (some (e,sz,dQ))=(0<sz/\bW 0 ps=true/\ps.length=n/\n*sz<=16777216/\Xh k sz (fS (ps.map λp=>p.2.nm))):=by
 simp only[Rt,Xh]
@[simp]def abS:=qA @Xh.eq_1<|qA @bW.eq_1<|@bW.eq_2
@[simp]def amK:cE (.sc v)=true:=(rfl)
@[simp]def ajw:cE .nil=true:=(rfl)
@[simp]def amL{v:List PC}:cE (.sl v)=true:=(rfl)
@[simp]def abT:=@cE.eq_1
def Xi(t:TypeId)(tb:Tb)(kt:AV->Tb->Prop):Option (List AV)->Prop
 |some zs=>kt (.obj tb.nx 0) (tb.bD ⟨t,zs.length,zs⟩)
 |none=>False
@[congr]def ahA{t:TypeId}{f:Option (List AV)}(h:f=g):Xi t tb kt f=Xi t tb kt g:=by rw[h]
@[simp]def ap5{t:TypeId}{x:AV}:LQ P t tb kt x=Xi t tb kt x.dW:=by
 simp only[LQ,Xi];cases x.dW<;>rfl
@[simp]def abU:=qA @Xi.eq_1<|@G0.eq_1
def Xj(kt:AV->Tb->Prop)(tb:Tb):Option AV->Prop
 |some y=>kt y tb
 |none=>False
@[congr]def ahB{f g:Option AV}(h2:f=g):Xj kt tb f=Xj kt tb g:=by grind
@[simp]def abV:=@Xj.eq_1
def ldG(kt:AV->Tb->Prop)(tb:Tb)(off:Nat):Option Ob->Option Bool->Option Nat->Prop
 |some ob,some ag,some s=>Xj kt tb (nL off s ag ob.xs)
 |_,_,_=>False
@[congr]def ajx{off':Nat}{f f':Option Ob}{g g':Option Bool}{h h':Option Nat}(e0:off=off')(e1:f=f')(e2:g=g')(e3:h=h'):ldG kt tb off f g h=ldG kt tb off' f' g' h':=by grind
@[simp]def ajy{t:TypeId}{id:Nat}:loadT P t tb kt (.obj id off)=ldG kt tb off (lk id tb.bx) (bS P t) (aW P t):=by
 simp only[loadT,ldG];cases lk id tb.bx<;>cases bS P t<;>cases aW P t<;>simp only[Xj];rename_i a b c;cases nL off c b a.xs<;>rfl
@[simp]def abW:=@ldG.eq_1
@[simp]def aob{t:TypeId}{x:PC}:loadT P t tb kt (.p x)=zK P t (qK kt tb) (.p x):=(rfl)
@[simp]def abX:=@Ji.eq_1
def stG(P:Program)(t:TypeId)(tb:Tb)(kt:AV->Tb->Prop)(id off:Nat):Option (List AV)->Option Ob->Prop
 |some zs,some ob=>aW P t=some zs.length/\off+zs.length<=ob.xs.length/\kt .any (tb.aY id {ob with xs:=ob.xs.take off++zs++ob.xs.drop (off+zs.length)})
 |_,_=>False
@[congr]def ajz{t:TypeId}{id off':Nat}{f f':Option (List AV)}{g g':Option Ob}(e0:off=off')(e1:f=f')(e2:g=g'):stG P t tb kt id off f g=stG P t tb kt id off' f' g':=by grind
@[simp]def ahC{t:TypeId}{id:Nat}{y:AV}:storeT P t tb kt (.obj id off) y=stG P t tb kt id off y.dW (lk id tb.bx):=by
 simp only[storeT,stG];cases y.dW with
 |none=>rfl
 |some zs=>simp only;cases lk id tb.bx<;>rfl
@[simp]def abY:=@stG.eq_1
section
variable{id id' f n s f' n' s':Nat}{m m':Option Nat}{y:AV}{ob lG:Ob}{es:Option Nat}
@[simp]def abZ:=@cpT.eq_1
@[congr]def ajA{y:AV}{a b:Option Ob}(h:y=y')(h2:a=b):cpO tb kt id f n s y a=cpO tb kt id f n s y' b:=by grind
@[simp]def ab0:=@cpO.eq_1
@[congr]def ajB{tb a_:Tb}{o o':Ob}{y:AV}(h0:tb=a_)(h:o=o')(h2:y=y'):cpP tb kt id f n s o y=cpP a_ kt id f n s o' y':=by grind
@[simp]def ab1:=@cpP.eq_1
@[congr]def ajC{a b:Option Ob}(h:a=b):cpG tb kt id f n s ob n' f' a=cpG tb kt id f n s ob n' f' b:=by rw[h]
@[simp]def ab2:=@cpG.eq_1
@[simp]def ap6:cpP tb kt id f n s ob (.p (.sl ys))=((∀y∈ys,y.width=s)/\(∀y∈ys,cE y=true)/\kt (.p (.int (Nat.min ys.length n:Nat))) (tb.aY id {ob with xs:=ob.xs.take (f*s)++(ys.take (Nat.min ys.length n)).flatMap bA++ob.xs.drop (f*s+Nat.min ys.length n*s)})):=(rfl)
def clG(tb:Tb)(kt:AV->Tb->Prop)(id f n s:Nat)(z:List PC):Option Ob->Prop
 |some ob=>ob.sz=s/\f*s<=ob.xs.length/\kt .any (tb.aY id {ob with xs:=ob.xs.take (f*s)++(jD n z).map .p++ob.xs.drop (f*s+n*s)})
 |none=>False
@[congr]def ajD{a b:Option Ob}(h:a=b):clG tb kt id f n s z a=clG tb kt id f n s z b:=by rw[h]
@[simp]def amM{e:TypeId}{dQ:Nat}(hz:bX P e=some z):clT P tb kt (.view id f n s' m) (some (e,s,dQ))=(s'=s/\0<s/\clG tb kt id f n s z (lk id tb.bx)):=by
 simp only[clT,hz,clG];cases lk id tb.bx<;>rfl
@[simp]def ab3:=@clG.eq_1
def mkG(tb:Tb)(kt:AV->Tb->Prop)(e:TypeId)(s dQ:Nat)(n c:Int):Option (List PC)->Prop
 |some z=>0<s/\0<=n/\n<=c/\dQ*c.toNat<=281474976710656/\c.toNat<=maxLen/\kt (.view tb.nx 0 n.toNat s (some c.toNat)) (tb.bD ⟨e,s,(jD c.toNat z).map .p⟩)
 |none=>False
@[congr]def ajE{e:TypeId}{dQ:Nat}{n c:Int}{a b:Option (List PC)}(h:a=b):mkG tb kt e s dQ n c a=mkG tb kt e s dQ n c b:=by rw[h]
@[simp]def amN{e:TypeId}{dQ:Nat}{k1 k2:IntKind}{n c:Int}:mkT P tb kt (.p (.sc (.int k1 n))) (.p (.sc (.int k2 c))) (some (e,s,dQ))=mkG tb kt e s dQ n c (bX P e):=by
 simp only[mkT,mkG];cases bX P e<;>rfl
@[simp]def ab4:=@mkG.eq_1
end
@[simp]def ab5:=@Ap.eq_1
@[congr]def ahD{u e:TypeId}{sz dQ:Nat}{y:AV}{z z':Option (Option Nat×List PC)}(h2:y=y')(h3:z=z'):Rb P u e sz dQ tb kt y z=Rb P u e sz dQ tb kt y' z':=by grind
@[simp]def ab6:=qA @JH.eq_1<|qA @JH.eq_2<|@JH.eq_3
section
variable{u e:TypeId}{sz dQ:Nat}{fX:Option Nat}{xs:List PC}
@[simp]def ab7:=@Rb.eq_2
@[simp]def ap7(h:(aO P u).isSome=true):abh P u e (sz+1) dQ fX xs tb kt ys=((∀x∈xs,x.width=sz+1)/\(∀y∈ys,y.width=sz+1)/\(xs.length+ys.length)*dQ<=140737488355328/\xs.length+ys.length<=9223372036854775807/\kt (.own tb.nx (xs++ys)) (rQ tb fX e (sz+1))):=by simp[abh,h]
end
@[simp]def ab8{l:aF}:(af l).length=l.length:=by simp[af]
variable{R:List AV->Tb->Prop}
@[simp]def ab9:=qA @ur.eq_1<|@ur.eq_2
@[congr]def ahE{tb:Tb}{f:Option (List AV)}(h:f=g):CS P R tb f=CS P R tb g:=by rw[h]
@[simp]def ab_:=@CS.eq_1
def JZ:Option AV->Option (List AV)->Option (List AV)
 |some x,some l=>some (x::l)
 |_,_=>none
@[simp]def ab':=@nH.eq_1
@[simp]def aoc{t:Tmp}{l:List ResultVar}:nH P st (.tmp t::l)=JZ (some (st.sl t)) (nH P st l):=by
 simp only[nH,JZ];cases nH P st l<;>rfl
@[simp]def amO{t:Tmp}{ty:TypeId}{l:List ResultVar}:nH P st (.cell t ty::l)=JZ (nH.ES P st (st.sl t) ty) (nH P st l):=by
 simp only[nH,JZ];cases nH.ES P st (st.sl t) ty<;>cases nH P st l<;>rfl
@[simp]def acd:=@JZ.eq_1
def Xk(off:Nat):Option Ob->Option Bool->Option Nat->Option AV
 |some ob,some ag,some s=>nL off s ag ob.xs
 |_,_,_=>none
@[simp]def ajF{id:Nat}{ty:TypeId}:nH.ES P st (.obj id off) ty=Xk off (lk id st.tb.bx) (bS P ty) (aW P ty):=by
 simp only[nH.ES,Xk];cases lk id st.tb.bx<;>cases bS P ty<;>cases aW P ty<;>rfl
@[simp]def ace:=qA @Xk.eq_1<|qA @ED.eq_1<|qA @toAll.eq_1<|qA @toAll.eq_2<|@AV.to.eq_1
def J0{x y:AV}(h:∀t ys,y≠ .agg t ys):x.to y=x.XK y:=by
 unfold AV.to;grind
def ap8{x:AV}{y:PC}:x.to (.p y)=∃p,x.pc=some p/\(y=p\/y=p.wk):=by
 rw[J0 H];apply propext;constructor
 .rintro(rfl|⟨p,h,h1|h1⟩|⟨rfl,h⟩|⟨_,_,_,_,_,_,h⟩)
  .simp
  .grind
  all_goals grind
 .rintro⟨p,h,rfl|rfl⟩
  .exact .inr (.inl ⟨_,h,.inl rfl⟩)
  .exact .inr (.inl ⟨_,h,.inr rfl⟩)
def toG(y:PC):Option PC->Prop
 |some p=>y=p\/y=p.wk
 |none=>False
@[simp]def aq4{x:AV}{y:PC}:x.to (.p y)=toG y x.pc:=by
 rw[ap8];cases x.pc<;>simp[toG]
@[simp]def toG_sc{y:PC}:toG y (some (.sc v))=(y= .sc v):=by simp[toG]
@[simp]def toG_sl{y:PC}{v:List PC}:toG y (some (.sl v))=(y= .sl v):=by simp[toG]
@[simp]def toG_nil{y:PC}:toG y (some .nil)=(y= .nil\/y= .sl []):=by simp[toG]
@[simp]def toG_ref{y x:PC}:toG y (some (.ref x))=(y= .ref x):=by simp[toG]
@[simp]def toG_fn{y:PC}{f:Fn}{x:List PC}:toG y (some (.fn f x))=(y= .fn f x):=by simp[toG]
@[simp]def toG_agg{y:PC}{x:List PC}:toG y (some (.agg b x))=(y= .agg b x\/y= .agg b (x.map PC.Yz)):=by simp[toG]
@[simp]def ap9{x:AV}{i:Nat}:x.to (.own i ys)=(x= .own i ys):=by
 rw[J0 H];simp[AV.XK,eq_comm]
@[simp]def ap_{x:AV}{i:Fn}{ys:List AV}:x.to (.mB i ys)=(x= .mB i ys):=by
 rw[J0 H];simp[AV.XK,eq_comm]
@[simp]def ap'{x:AV}{i:TypeId}{y:AV}:x.to (.o_ i y)=(x= .o_ i y):=by
 rw[J0 H];simp[AV.XK,eq_comm]
@[simp]def aqa{x:AV}{i:Nat}:x.to (.obj i o)=(x= .obj i o):=by
 rw[J0 H];simp[AV.XK,eq_comm]
@[simp]def amP{x:AV}{i n s m:Nat}:x.to (.view i o n s (some m))=(x= .view i o n s (some m)):=by
 rw[J0 H];simp[AV.XK,eq_comm]
@[simp]def amQ{x:AV}{i n s:Nat}:x.to (.view i o n s none)=(∃m,x= .view i o n s m):=by
 rw[J0 H];simp only[AV.XK,reduceCtorEq,false_or,or_false,and_false,exists_false];apply propext;constructor
 .rintro(h|⟨id,o',n',s',m,h1,h2⟩)
  .exact⟨none,h.symm⟩
  .injection h2 with e1 e2 e3 e4;subst e1;subst e2;subst e3;subst e4;exact⟨m,h1⟩
 .rintro⟨m,rfl⟩;exact .inr ⟨_,_,_,_,_,rfl,rfl⟩
@[simp]def aod{x:AV}:x.to (.full ys)=(x= .full ys\/x= .p .nil/\ys=[]):=by
 rw[J0 H];simp[AV.XK,eq_comm]
theorem bQ{n:Int}(h1:-9223372036854775808<=n)(h2:n<=9223372036854775807):IntKind.i64.wrap n=n:=IntWalk.i64_in n ⟨h1,h2⟩
end
def aG{n:Int}(h0:-9223372036854775808<=n:=by omega)(h1:n<=9223372036854775807:=by omega):IntKind.i64.wrap n=n:=bQ h0 h1
def ju(k:Nat)(h:(k:Int)+1<=9223372036854775807:=by omega):IntKind.i64.wrap ((k:Int)+1)=((k+1:Nat):Int):=by rw[bQ O h];rfl
end Go.Av
