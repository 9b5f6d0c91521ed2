/- DiskSizes, part 9: an abstract interpreter over a program's form, with the proof that it is sound; it holds for any program that the model takes. -/
import Derived.Test.YtgkdpbambfgahaaGreatDoorWah
set_option linter.all false
set_option maxRecDepth 100000
set_option maxHeartbeats 64000000
namespace Go.Av
open Go.RowKit
section
variable{P:Program}{Q:Exit->AS->Prop}{k:AV->Prop}{st:AS}
@[simp]theorem aop(l:List UInt8):bs (ByteArray.mk l.toArray)=l:=(rfl)
@[simp]theorem aoq{x y:AV}:ri k x y (.p (.sc (.bool true)))=k x:=by simp[ri]
@[simp]theorem aor{x y:AV}:ri k x y (.p (.sc (.bool false)))=k y:=by simp[ri]
@[simp]theorem apx{y:PC}:G9 k (.p y)=k (.p (.ref y)):=(rfl)
@[simp]theorem ajq{v:Value}:PC.width (.sc v)=1:=(rfl)
@[simp]theorem aev:PC.width .nil=1:=(rfl)
@[simp]theorem ajr{xs:List PC}:PC.width (.sl xs)=1:=(rfl)
@[simp]theorem aew{xs:List PC}:PC.width (.agg false xs)=xs.length:=(rfl)
@[simp]theorem alO{t:TypeId}{v:Value}:fits P t (.sc v)=(bR P t==some false):=(rfl)
@[simp]theorem ajs{t:TypeId}:fits P t .nil=(bR P t==some false):=(rfl)
@[simp]theorem alP{t:TypeId}{v:List PC}:fits P t (.sl v)=(bR P t==some false):=(rfl)
@[simp]theorem ajt{t:TypeId}{v:PC}:fits P t (.ref v)=(bR P t==some false):=(rfl)
@[simp]theorem alQ{t:TypeId}{f:Fn}{v:List PC}:fits P t (.fn f v)=(bR P t==some false):=(rfl)
@[simp]theorem aju{t:TypeId}{xs:List PC}:fits P t (.agg false xs)=(bR P t==some true&&aP P t==some xs.length):=(rfl)
def Dp(k:AV->Prop)(y:PC)(b:Bool):Prop:=b=true/\k (.p y)
@[congr]theorem Vf{y:PC}{b c:Bool}(h:b=c):Dp k y b=Dp k y c:=by rw[h]
@[simp]theorem ajv{t:TypeId}{y:PC}:uz P t k (.p (.ref y))=Dp k y (fits P t y):=(rfl)
@[simp]theorem alR{y:PC}:Dp k y true=k (.p y):=by simp[Dp]
def faA(k:AV->Prop)(xs:List PC):Option (Nat×Nat×Bool)->Prop
 |some (off,s,a)=>match part off s a xs with
  |some y=>s≠0/\k (.p (.ref y))
  |none=>False
 |none=>False
def faB(k:AV->Prop)(s:Nat):Option PC->Prop
 |some y=>s≠0/\k (.p (.ref y))
 |none=>False
@[congr]theorem aex{xs ys:List PC}{f g:Option (Nat×Nat×Bool)}(h:xs=ys)(h2:f=g):faA k xs f=faA k ys g:=by rw[h,h2]
@[congr]theorem aey{s:Nat}{f g:Option PC}(h2:f=g):faB k s f=faB k s g:=by rw[h2]
@[simp]theorem Ow{t:TypeId}{i:Nat}{xs:List PC}:mR P t i k (.p (.ref (.agg false xs)))=faA k xs (dc P t i):=(rfl)
@[simp]theorem ajw{xs:List PC}{off s:Nat}{a:Bool}:faA k xs (some (off,s,a))=faB k s (part off s a xs):=(rfl)
@[simp]theorem ajx{s:Nat}{y:PC}:faB k (s+1) (some y)=k (.p (.ref y)):=by simp[faB]
def fiA(k:AV->Prop)(xs:List PC):Option (Nat×Nat×Bool)->Prop
 |some (off,s,a)=>match part off s a xs with
  |some y=>k (.p y)
  |none=>False
 |none=>False
def NY(k:AV->Prop):Option PC->Prop
 |some y=>k (.p y)
 |none=>False
@[congr]theorem aez{xs ys:List PC}{f g:Option (Nat×Nat×Bool)}(h:xs=ys)(h2:f=g):fiA k xs f=fiA k ys g:=by rw[h,h2]
@[congr]theorem ZB{f g:Option PC}(h2:f=g):NY k f=NY k g:=by rw[h2]
@[simp]theorem aeA{t:TypeId}{i:Nat}{xs:List PC}:wH P t i k (.p (.agg false xs))=fiA k xs (dc P t i):=(rfl)
@[simp]theorem ajy{xs:List PC}{off s:Nat}{a:Bool}:fiA k xs (some (off,s,a))=NY k (part off s a xs):=(rfl)
@[simp]theorem aeB{y:PC}:NY k (some y)=k (.p y):=(rfl)
@[simp]theorem ajz{off:Nat}{xs:List PC}:part off 1 false xs=xs[off]?:=(rfl)
@[simp]theorem ajA{off s:Nat}{xs:List PC}:part off s true xs=if off+s<=xs.length then some (.agg false ((xs.drop off).take s))else none:=(rfl)
def iaA(P:Program)(t:TypeId)(k:AV->Prop)(n:Int):Option PC->Prop
 |some y=>0<=n/\aJ P t=some y.width/\k (.p (.ref y))
 |none=>False
@[congr]theorem aeC{t:TypeId}{n:Int}{f g:Option PC}(h2:f=g):iaA P t k n f=iaA P t k n g:=by rw[h2]
@[simp]theorem Tn{t:TypeId}{xs:List PC}{c:IntKind}{n:Int}:eS P t k (.p (.sl xs)) (.p (.sc (.int c n)))=iaA P t k n (xs[n.toNat]?):=by
 cases hz:xs[n.toNat]?<;>simp only[eS,iaA,hz,and_false]
@[simp]theorem ajB{t:TypeId}{n:Int}{y:PC}(h0:0<=n)(h:aJ P t=some y.width):iaA P t k n (some y)=k (.p (.ref y)):=by simp[iaA,h0,h]
def ixA(P:Program)(t:TypeId)(k:AV->Prop)(n:Int):Option UInt8->Prop
 |some c=>0<=n/\isStr P t=true/\k (.p (.sc (.int .u8 c.toNat)))
 |none=>False
@[congr]theorem aeD{t:TypeId}{n:Int}{f g:Option UInt8}(h2:f=g):ixA P t k n f=ixA P t k n g:=by rw[h2]
@[simp]theorem aeE{t:TypeId}{s:ByteArray}{c:IntKind}{n:Int}:qh P t k (.p (.sc (.string s))) (.p (.sc (.int c n)))=ixA P t k n ((bs s)[n.toNat]?):=by
 cases hz:(bs s)[n.toNat]?<;>simp only[qh,ixA,hz,and_false]
@[simp]theorem ajC{t:TypeId}{n:Int}{c:UInt8}(h0:0<=n)(h:isStr P t=true):ixA P t k n (some c)=k (.p (.sc (.int .u8 c.toNat))):=by simp[ixA,h0,h]
@[simp]theorem Vg{i:Nat}{xs:List PC}:oy i k (.p (.agg true xs))=NY k (xs[i]?):=(rfl)
@[simp]theorem aeF{t:TypeId}{s:ByteArray}{c:IntKind}{i:Int}(h:isStr P t=true):fM P t (some (.p (.sc (.int c i)))) none k (.p (.sc (.string s)))=(0<=i/\i.toNat<=(bs s).length/\k (.p (.str ((bs s).drop i.toNat)))):=by
 simp[fM,Ac,nP,nQ,h]
@[simp]theorem aeG{t:TypeId}{s:ByteArray}{d:IntKind}{j:Int}(h:isStr P t=true):fM P t none (some (.p (.sc (.int d j)))) k (.p (.sc (.string s)))=(0<=j/\j.toNat<=(bs s).length/\k (.p (.str ((bs s).take j.toNat)))):=by
 simp[fM,Ac,nP,nQ,h]
@[simp]theorem aeH{t:TypeId}{xs:List PC}{c:IntKind}{i:Int}(h:(aJ P t).isSome=true):fM P t (some (.p (.sc (.int c i)))) none k (.p (.sl xs))=((∀y∈xs,aJ P t=some y.width)/\0<=i/\i.toNat<=xs.length/\k (.p (.sl (xs.drop i.toNat)))):=by
 simp[fM,Ac,nP,nQ,h]
@[simp]theorem aeI{t:TypeId}{xs:List PC}{d:IntKind}{j:Int}(h:(aJ P t).isSome=true):fM P t none (some (.p (.sc (.int d j)))) k (.p (.sl xs))=((∀y∈xs,aJ P t=some y.width)/\0<=j/\j.toNat<=xs.length/\k (.p (.sl (xs.take j.toNat)))):=by
 simp[fM,Ac,nP,nQ,h]
@[simp]theorem aeJ{t:TypeId}{xs:List PC}{c d:IntKind}{i j:Int}(h:(aJ P t).isSome=true):fM P t (some (.p (.sc (.int c i)))) (some (.p (.sc (.int d j)))) k (.p (.sl xs))=((∀y∈xs,aJ P t=some y.width)/\0<=i/\0<=j/\i.toNat<=j.toNat/\j.toNat<=xs.length/\k (.p (.sl ((xs.take j.toNat).drop i.toNat)))):=by simp[fM,Ac,nP,nQ,h]
section
variable{t:TypeId}{c d:IntKind}{x y:Int}
@[simp]theorem alS:bM P .add t k (.p (.sc (.int c x))) (.p (.sc (.int c y)))=k (.p (.sc (.int c (c.wrap (x+y))))):=by simp[bM,ia]
@[simp]theorem alT:bM P .sub t k (.p (.sc (.int c x))) (.p (.sc (.int c y)))=k (.p (.sc (.int c (c.wrap (x-y))))):=by simp[bM,ia]
@[simp]theorem alU:bM P .mul t k (.p (.sc (.int c x))) (.p (.sc (.int c y)))=k (.p (.sc (.int c (c.wrap (x*y))))):=by simp[bM,ia]
@[simp]theorem alV:bM P .quo t k (.p (.sc (.int c x))) (.p (.sc (.int c y)))=(y≠0/\k (.p (.sc (.int c (c.wrap (x.tdiv y)))))):=by simp[bM,ia]
@[simp]theorem alW:bM P .rem t k (.p (.sc (.int c x))) (.p (.sc (.int c y)))=(y≠0/\k (.p (.sc (.int c (x.tmod y))))):=by simp[bM,ia]
@[simp]theorem alX:bM P .and t k (.p (.sc (.int c x))) (.p (.sc (.int c y)))=k (.p (.sc (.int c (bits .and c x y)))):=by simp[bM,ia]
@[simp]theorem aos:bM P .or t k (.p (.sc (.int c x))) (.p (.sc (.int c y)))=k (.p (.sc (.int c (bits .or c x y)))):=by simp[bM,ia]
@[simp]theorem alY:bM P .xor t k (.p (.sc (.int c x))) (.p (.sc (.int c y)))=k (.p (.sc (.int c (bits .xor c x y)))):=by simp[bM,ia]
@[simp]theorem alZ:bM P .shl t k (.p (.sc (.int c x))) (.p (.sc (.int d y)))=(0<=y/\k (.p (.sc (.int c (c.wrap (x*2^min y.toNat c.bits)))))):=by simp[bM,ia]
@[simp]theorem al0:bM P .shr t k (.p (.sc (.int c x))) (.p (.sc (.int d y)))=(0<=y/\k (.p (.sc (.int c (x.fdiv (2^min y.toNat c.bits)))))):=by simp[bM,ia]
@[simp]theorem al1:bM P .eql t k (.p (.sc (.int c x))) (.p (.sc (.int c y)))=k (.p (.sc (.bool (x==y)))):=by simp[bM,ia]
@[simp]theorem al2:bM P .neq t k (.p (.sc (.int c x))) (.p (.sc (.int c y)))=k (.p (.sc (.bool (x !=y)))):=by simp[bM,ia]
@[simp]theorem al3:bM P .lss t k (.p (.sc (.int c x))) (.p (.sc (.int c y)))=k (.p (.sc (.bool (decide (x<y))))):=by simp[bM,ia]
@[simp]theorem al4:bM P .leq t k (.p (.sc (.int c x))) (.p (.sc (.int c y)))=k (.p (.sc (.bool (decide (x<=y))))):=by simp[bM,ia]
@[simp]theorem al5:bM P .gtr t k (.p (.sc (.int c x))) (.p (.sc (.int c y)))=k (.p (.sc (.bool (decide (y<x))))):=by simp[bM,ia]
@[simp]theorem al6:bM P .geq t k (.p (.sc (.int c x))) (.p (.sc (.int c y)))=k (.p (.sc (.bool (decide (y<=x))))):=by simp[bM,ia]
end
section
variable{t:TypeId}{x y:ByteArray}
@[simp]theorem ajD:bM P .add t k (.p (.sc (.string x))) (.p (.sc (.string y)))=((bs x).length+(bs y).length<=9223372036854775807/\k (.p (.str (bs x++bs y)))):=by simp[bM,ia]
@[simp]theorem ajE:bM P .eql t k (.p (.sc (.string x))) (.p (.sc (.string y)))=k (.p (.sc (.bool (bs x==bs y)))):=by simp[bM,ia]
@[simp]theorem ajF:bM P .neq t k (.p (.sc (.string x))) (.p (.sc (.string y)))=k (.p (.sc (.bool (bs x !=bs y)))):=by simp[bM,ia]
@[simp]theorem ajG:bM P .lss t k (.p (.sc (.string x))) (.p (.sc (.string y)))=k (.p (.sc (.bool (Op.bytesLess (bs x) (bs y))))):=by simp[bM,ia]
@[simp]theorem ajH:bM P .leq t k (.p (.sc (.string x))) (.p (.sc (.string y)))=k (.p (.sc (.bool (Op.bytesLess (bs x) (bs y)||bs x==bs y)))):=by simp[bM,ia]
@[simp]theorem ajI:bM P .gtr t k (.p (.sc (.string x))) (.p (.sc (.string y)))=k (.p (.sc (.bool !(Op.bytesLess (bs x) (bs y)||bs x==bs y)))):=by simp[bM,ia]
@[simp]theorem ajJ:bM P .geq t k (.p (.sc (.string x))) (.p (.sc (.string y)))=k (.p (.sc (.bool !(Op.bytesLess (bs x) (bs y))))):=by simp[bM,ia]
end
@[simp]theorem aot{b:Bool}:rj .not k (.p (.sc (.bool b)))=k (.p (.sc (.bool !b))):=by simp[rj]
@[simp]theorem aou{c:IntKind}{n:Int}:rj .xor k (.p (.sc (.int c n)))=k (.p (.sc (.int c (bits .xor c (if c.signed then-1 else c.max) n)))):=by simp[rj]
@[simp]theorem aov{t:TypeId}{xs:List PC}:Z_ P t k (.p (.sl xs))=saA k xs (gL P t):=(rfl)
@[simp]theorem ajK{xs:List PC}{m s:Nat}{b:Bool}:saA k xs (some (m,s,b))=(s=1/\0<m/\m<=xs.length/\(∀y∈xs,y.plain=true)/\k (.p (.ref (.agg false (xs.take m))))):=(rfl)
def cvI(k:AV->Prop)(n:Int):Option IntKind->Prop
 |some c=>k (.p (.sc (.int c (c.wrap n))))
 |none=>False
@[congr]theorem aeK{n:Int}{f g:Option IntKind}(h2:f=g):cvI k n f=cvI k n g:=by rw[h2]
@[simp]theorem ajL{s d:TypeId}{c:IntKind}{n:Int}(h:Av.isSome P s=true):nE P s d k (.p (.sc (.int c n)))=cvI k n (Av.intOf P d):=by
 unfold nE cvI;generalize Av.intOf P d=z;cases z<;>simp[h]
@[simp]theorem ajM{n:Int}{c:IntKind}:cvI k n (some c)=k (.p (.sc (.int c (c.wrap n)))):=(rfl)
theorem Dq{a b:List UInt8}(h:ah a=ah b):a=b:=by
 induction a generalizing b with
 |nil=>cases b<;>simp_all [ah]
 |cons x a ih=>
  cases b with
  |nil=>simp[ah]at h
  |cons y b=>
   simp only[ah,List.map_cons,List.cons.injEq,PC.sc.injEq,Value.int.injEq,true_and]at h;have e:x=y:=by apply UInt8.toNat_inj.1;have:=h.1;omega
   rw[e,ih h.2]
@[simp]theorem al7{s d:TypeId}{l:List UInt8}(h:dL P s=true)(h2:isStr P d=true):nE P s d k (.p (.sl (ah l)))=k (.p (.str l)):=by
 simp only[nE,h,h2,true_and];apply propext;constructor
 ·rintro⟨l',e,hk⟩;rw[Dq e];exact hk
 ·intro hk;exact⟨l,rfl,hk⟩
@[simp]theorem ZC{t:TypeId}{i f:Nat}(h:Av.isSome P t=true)(h2:isIface P t=false):qi P t k (.obj i f)=k (.kV t (.obj i f)):=by simp[qi,h,h2]
def NZ(x:PC):Option (List PC)->Option (List PC)
 |some r=>some (x::r)
 |none=>none
@[simp]theorem ajN:dR []=some []:=(rfl)
@[simp]theorem aeL{x:PC}{l:List AV}:dR (.p x::l)=NZ x (dR l):=by simp only[dR,NZ];generalize dR l=z;cases z<;>rfl
@[simp]theorem ZD{x:PC}{r:List PC}:NZ x (some r)=some (x::r):=(rfl)
@[simp]theorem al8{f:Fn}{ys:List AV}{xs:List PC}:VM f k ys (some xs)=k (.p (.fn f xs)):=(rfl)
@[simp]theorem al9{f:Fn}{ys:List AV}:VM f k ys none=k (.jZ f ys):=(rfl)
@[simp]theorem al_{y:PC}:Km k (.p (.ref y))=k (.p (.ref y)):=(rfl)
@[simp]theorem al'{t:TypeId}{s:ByteArray}(h:isStr P t=true):td P t k (.p (.sc (.string s)))=k (.p (.sc (.int .i64 ((bs s).length:Nat)))):=by simp[td,h]
@[simp]theorem len_nil{t:TypeId}(h:(aJ P t).isSome=true):td P t k (.p .nil)=k (.p (.sc (.int .i64 0))):=by simp[td,h]
@[simp]theorem Kc{t:TypeId}{xs:List PC}(h:(aJ P t).isSome=true):td P t k (.p (.sl xs))=k (.p (.sc (.int .i64 (xs.length:Nat)))):=by simp[td,h]
@[simp]theorem ama{c:IntKind}{x y:Int}:DV k [.p (.sc (.int c x)),.p (.sc (.int c y))]=k (.p (.sc (.int c (if y<x then y else x)))):=by simp[DV]
@[simp]theorem amb{c:IntKind}{x y:Int}:DW k [.p (.sc (.int c x)),.p (.sc (.int c y))]=k (.p (.sc (.int c (if y>x then y else x)))):=by simp[DW]
@[simp]theorem ajO{g:FuncId}{caps xs:List PC}:tf P k (some xs) (.p (.fn (.func g) caps))=xU P g (xs.map PC.wk++caps) k:=(rfl)
@[simp]theorem apy{v:Value}:PC.wk (.sc v)= .sc v:=(rfl)
@[simp]theorem aow:PC.wk .nil= .sl []:=(rfl)
@[simp]theorem apz{xs:List PC}:PC.wk (.sl xs)= .sl xs:=(rfl)
@[simp]theorem aox{x:PC}:PC.wk (.ref x)= .ref x:=(rfl)
@[simp]theorem apA{f:Fn}{xs:List PC}:PC.wk (.fn f xs)= .fn f xs:=(rfl)
@[simp]theorem aoy{b:Bool}{xs:List PC}:PC.wk (.agg b xs)= .agg b (xs.map PC.Oe):=(rfl)
@[simp]theorem aoz{v:Value}:PC.Oe (.sc v)= .sc v:=(rfl)
@[simp]theorem amc:PC.Oe .nil= .sl []:=(rfl)
@[simp]theorem aoA{xs:List PC}:PC.Oe (.sl xs)= .sl xs:=(rfl)
@[simp]theorem amd{x:PC}:PC.Oe (.ref x)= .ref x:=(rfl)
attribute [simp] Value.oneCell'
variable{kt:AV->Tb->Prop}{tb:Tb}{cx:Cx}
def faG(k:AV->Prop)(id off:Nat):Option (Nat×Nat×Bool)->Prop
 |some (o,s,_)=>s≠0/\k (.obj id (off+o))
 |none=>False
@[congr]theorem aeM{id off:Nat}{f g:Option (Nat×Nat×Bool)}(h:f=g):faG k id off f=faG k id off g:=by rw[h]
@[simp]theorem ame{t:TypeId}{i id off:Nat}:TB P t i k (.obj id off)=faG k id off (dc P t i):=by
 simp only[TB,faG];cases dc P t i<;>rfl
@[simp]theorem ajP{id off o s:Nat}{a:Bool}:faG k id off (some (o,s+1,a))=k (.obj id (off+o)):=by simp[faG]
@[simp]theorem apB{t:TypeId}{i:Nat}{x:PC}:TB P t i k (.p x)=mR P t i k (.p x):=(rfl)
@[simp]theorem ajQ{t:TypeId}{id f n s:Nat}{m:Option Nat}{c:IntKind}{j:Int}(h:aJ P t=some s):Om P t k (.view id f n s m) (.p (.sc (.int c j)))=(0<=j/\j<(n:Int)/\k (.obj id ((f+j.toNat)*s))):=by simp[Om,h]
@[simp]theorem apC{t:TypeId}{c:IntKind}{n:Int}:glW P t k (.p (.sc (.int c n)))=(gL P t=some (16,1,false)/\0<=n/\n<16/\k (.p (.ref (.sc (.int .u32 ((kn.getD n.toNat 0:Nat):Int)))))):=(rfl)
@[simp]theorem apD{t:TypeId}{x:PC}{y:AV}:Om P t k (.p x) y=eS P t k (.p x) y.nm:=(rfl)
@[simp]theorem amf{t:TypeId}{i:Nat}{x:List PC}{y:AV}:Om P t k (.own i x) y=eS P t k (.p (.sl x)) y.nm:=(rfl)
@[simp]theorem ajR{t:TypeId}{x:List PC}{y:AV}:Om P t k (.full x) y=eS P t k (.p (.sl x)) y.nm:=(rfl)
@[simp]theorem aoB{t:TypeId}{lo hi:Option AV}{x:Value}:xN P t lo hi k (.p (.sc x))=fM P t lo hi k (.p (.sc x)):=(rfl)
@[simp]theorem aoC{t:TypeId}{lo hi:Option AV}{x:List PC}:xN P t lo hi k (.p (.sl x))=fM P t lo hi k (.p (.sl x)):=(rfl)
@[simp]theorem amg{t:TypeId}{c:IntKind}{i:Int}(h:(aJ P t).isSome=true):xN P t none (some (.p (.sc (.int c i)))) k (.p .nil)=(0<=i/\i.toNat<=0/\k (.p .nil)):=by simp[xN,tV,nP,nQ,h]
@[simp]theorem amh{t:TypeId}{lo hi:Option AV}{i:Nat}{x:List PC}:xN P t lo hi k (.own i x)=fM P t lo hi k (.p (.sl x)):=(rfl)
@[simp]theorem ajS{t:TypeId}{lo hi:Option AV}{x:List PC}:xN P t lo hi k (.full x)=fM P t lo hi k (.p (.sl x)):=(rfl)
section
variable{t:TypeId}{id f n s m:Nat}{c d:IntKind}{i j:Int}
@[simp]theorem ami(h:aJ P t=some s):xN P t (some (.p (.sc (.int c i)))) none k (.view id f n s (some m))=(f<=m/\0<=i/\i.toNat<=n/\n<=m-f/\k (.view id (f+i.toNat) (n-i.toNat) s (some m))):=by simp[xN,tV,nP,nQ,h]
@[simp]theorem amj(h:aJ P t=some s):xN P t none (some (.p (.sc (.int d j)))) k (.view id f n s (some m))=(f<=m/\0<=j/\j.toNat<=m-f/\k (.view id f j.toNat s (some m))):=by simp[xN,tV,nP,nQ,h]
@[simp]theorem amk(h:aJ P t=some s):xN P t (some (.p (.sc (.int c i)))) (some (.p (.sc (.int d j)))) k (.view id f n s (some m))=(f<=m/\0<=i/\0<=j/\i.toNat<=j.toNat/\j.toNat<=m-f/\k (.view id (f+i.toNat) (j.toNat-i.toNat) s (some m))):=by simp[xN,tV,nP,nQ,h]
@[simp]theorem aml(h:aJ P t=some s):xN P t (some (.p (.sc (.int c i)))) none k (.view id f n s none)=(0<=i/\i.toNat<=n/\k (.view id (f+i.toNat) (n-i.toNat) s none)):=by simp[xN,tV,nP,nQ,h]
@[simp]theorem amm(h:aJ P t=some s):xN P t none (some (.p (.sc (.int d j)))) k (.view id f n s none)=(0<=j/\j.toNat<=n/\k (.view id f j.toNat s none)):=by simp[xN,tV,nP,nQ,h]
@[simp]theorem amn(h:aJ P t=some s):xN P t (some (.p (.sc (.int c i)))) (some (.p (.sc (.int d j)))) k (.view id f n s none)=(0<=i/\0<=j/\i.toNat<=j.toNat/\j.toNat<=n/\k (.view id (f+i.toNat) (j.toNat-i.toNat) s none)):=by simp[xN,tV,nP,nQ,h]
end
@[simp]theorem aoD{t:TypeId}{x:PC}:yL P t k (.p x)=td P t k (.p x):=(rfl)
@[simp]theorem ajT{t:TypeId}{i:Nat}{x:List PC}:yL P t k (.own i x)=td P t k (.p (.sl x)):=(rfl)
@[simp]theorem aeN{t:TypeId}{x:List PC}:yL P t k (.full x)=td P t k (.p (.sl x)):=(rfl)
@[simp]theorem aeO{t:TypeId}{id f n s:Nat}{m:Option Nat}(h:(aJ P t).isSome=true):yL P t k (.view id f n s m)=k (.p (.int n)):=by simp[yL,h]
@[simp]theorem ajU{t:TypeId}(h:(aJ P t).isSome=true):A3 P t k (.p .nil)=k (.p (.int 0)):=by simp[A3,h]
@[simp]theorem Vh{id f n s m:Nat}:sd (.view id f n s (some (m+1)))=some false:=by cases n<;>rfl
@[simp]theorem aeP{t:TypeId}{id f n s m:Nat}(h:(aJ P t).isSome=true):A3 P t k (.view id f n s (some m))=k (.p (.int ((m-f:Nat):Int))):=by simp[A3,h]
def N0(k:AV->Prop):Option AV->Prop
 |some y=>k y
 |none=>False
@[congr]theorem ZE{f g:Option AV}(h2:f=g):N0 k f=N0 k g:=by rw[h2]
@[simp]theorem aeQ{y:AV}:N0 k (some y)=k y:=(rfl)
@[simp]theorem ajV{t:TypeId}{i:Nat}{x:PC}:tP P t i k (.p x)=wH P t i k (.p x):=(rfl)
@[simp]theorem aeR{off:Nat}{xs:List AV}:ji off 1 false xs=xs[off]?:=(rfl)
@[simp]theorem aeS{off s:Nat}{xs:List AV}:ji off s true xs=if off+s<=xs.length then some (.agg false ((xs.drop off).take s))else none:=(rfl)
@[simp]theorem ajW{i:Nat}{xs:List AV}:Ct i k (.agg true xs)=N0 k (xs[i]?):=by
 simp only[Ct,N0];cases xs[i]?<;>rfl
@[simp]theorem aoE{i:Nat}{x:PC}:Ct i k (.p x)=oy i k (.p x):=(rfl)
@[simp]theorem ajX{id off:Nat}:Ev k (.obj id off)=k (.obj id off):=(rfl)
@[simp]theorem aoF{x:PC}:Ev k (.p x)=Km k (.p x):=(rfl)
@[simp]theorem ajY{op:BinOp}{t:TypeId}{x:AV}{c:IntKind}{n:Int}:vh P op t k x (.p (.sc (.int c n)))=bM P op t k x.nm (.p (.sc (.int c n))):=(rfl)
@[simp]theorem ajZ{op:BinOp}{t:TypeId}{x:AV}{s:ByteArray}:vh P op t k x (.p (.sc (.string s)))=bM P op t k x.nm (.p (.sc (.string s))):=(rfl)
@[simp]theorem aeT{op:BinOp}{t:TypeId}{x:AV}{b:Bool}{xs:List PC}:vh P op t k x (.p (.agg b xs))=Eu P op t k (.p (.agg b xs)) x.nm:=(rfl)
@[congr]theorem ZF{op:BinOp}{t:TypeId}{x x' y y':AV}(h:x=x')(h2:y=y'):Eu P op t k x y=Eu P op t k x' y':=by rw[h,h2]
@[simp]theorem aj0{op:BinOp}{t:TypeId}{xs ys:List PC}(h:v_ P t=true):Eu P op t k (.p (.agg false ys)) (.p (.agg false xs))=qy k op (TA P xs ys (DQ P t)):=by simp only[Eu,h,true_and]
def eqA:Option Bool->Option Bool->Option Bool
 |some a,some b=>some (a&&b)
 |_,_=>none
def eqB(P:Program)(t:TypeId):Option PC->Option PC->Option Bool
 |some x,some y=>Tz P t x y
 |_,_=>none
@[simp]theorem aj1{xs ys:List PC}{l:List (Nat×TypeId)}:TA P xs ys (some l)=J_ P xs ys l:=(rfl)
@[simp]theorem amo{xs ys:List PC}:J_ P xs ys []=some true:=(rfl)
@[simp]theorem aj2{xs ys:List PC}{o:Nat}{t:TypeId}{l:List (Nat×TypeId)}:J_ P xs ys ((o,t)::l)=eqA (eqB P t xs[o]? ys[o]?) (J_ P xs ys l):=by
 simp only[J_];cases xs[o]?<;>cases ys[o]?<;>simp only[eqB,eqA];rename_i x y;cases Tz P t x y<;>cases J_ P xs ys l<;>rfl
@[simp]theorem aj3{a b:Bool}:eqA (some a) (some b)=some (a&&b):=(rfl)
@[simp]theorem aj4{t:TypeId}{x y:PC}:eqB P t (some x) (some y)=Tz P t x y:=(rfl)
@[simp]theorem amq{t:TypeId}{c:IntKind}{a b:Int}(h:Av.intOf P t=some c):Tz P t (.sc (.int c a)) (.sc (.int c b))=some (a==b):=by simp[Tz,h]
@[simp]theorem aj5{op:BinOp}{t:TypeId}{x:AV}(h:(aJ P t).isSome=true):vh P op t k x (.p .nil)=qy k op (sd x):=by simp[vh,h]
@[simp]theorem aj6{op:BinOp}{t:TypeId}{x:AV}(h:uB P t=true):vh P op t k x (.p (.sc (.pointer none)))=qy k op (qx x):=by simp[vh,h]
@[congr]theorem ZG{op:BinOp}{f g:Option Bool}(h:f=g):qy k op f=qy k op g:=by rw[h]
@[simp]theorem aj7{b:Bool}:qy k .eql (some b)=k (.p (.bool b)):=by simp[qy]
@[simp]theorem aj8{b:Bool}:qy k .neq (some b)=k (.p (.bool !b)):=by simp[qy]
@[simp]theorem aeU:sd (.p .nil)=some true:=(rfl)
@[simp]theorem aj9{l:List PC}:sd (.nn l)=some false:=(rfl)
@[simp]theorem ZH{i o:Nat}:qx (.obj i o)=some false:=(rfl)
def Jd(P:Program)(t:TypeId)(k:AV->Prop)(ps:List (Nat×AV)):Option (List PC)->Prop
 |some z=>match mK P t (z.map .p) ps with
  |some zs=>k (.agg false zs)
  |none=>False
 |none=>False
def N1(k:AV->Prop):Option (List AV)->Prop
 |some zs=>k (.agg false zs)
 |none=>False
@[congr]theorem ZI{t:TypeId}{ps ps':List (Nat×AV)}{f g:Option (List PC)}(h:ps=ps')(h2:f=g):Jd P t k ps f=Jd P t k ps' g:=by rw[h,h2]
@[congr]theorem ZJ{f g:Option (List AV)}(h2:f=g):N1 k f=N1 k g:=by rw[h2]
@[simp]theorem aj_{t:TypeId}{ps:List (Nat×AV)}(h:bu P t=true):qz P t k ps=Jd P t k ps (bJ P t):=by
 simp only[qz,Jd,h,true_and];cases bJ P t<;>rfl
@[simp]theorem aeV{t:TypeId}{ps:List (Nat×AV)}{z:List PC}:Jd P t k ps (some z)=N1 k (mK P t (z.map .p) ps):=by
 simp only[Jd,N1]
@[simp]theorem aeW{zs:List AV}:N1 k (some zs)=k (.agg false zs):=(rfl)
def Dr(P:Program)(t:TypeId)(cs:List AV)(rest:List (Nat×AV)):Option (Nat×Nat)->Option (List AV)->Option (List AV)
 |some (off,s),some zs=>if zs.length=s/\off+s<=cs.length then mK P t (cs.take off++zs++cs.drop (off+s)) rest else none
 |_,_=>none
@[congr]theorem Vi{t:TypeId}{cs cs':List AV}{rest:List (Nat×AV)}{f f':Option (Nat×Nat)}{g g':Option (List AV)}(h:cs=cs')(h2:f=f')(h3:g=g'):Dr P t cs rest f g=Dr P t cs' rest f' g':=by rw[h,h2,h3]
@[simp]theorem aeX{t:TypeId}{cs:List AV}:mK P t cs []=some cs:=(rfl)
@[simp]theorem ZK{t:TypeId}{cs:List AV}{i:Nat}{v:AV}{rest:List (Nat×AV)}:mK P t cs ((i,v)::rest)=Dr P t cs rest (aS P t i) v.cR:=by
 simp only[mK,Dr];cases aS P t i with
 |none=>rfl
 |some q=>cases v.cR<;>rfl
@[simp]theorem ZL{t:TypeId}{cs zs:List AV}{rest:List (Nat×AV)}{off s:Nat}:Dr P t cs rest (some (off,s)) (some zs)=if zs.length=s/\off+s<=cs.length then mK P t (cs.take off++zs++cs.drop (off+s)) rest else none:=(rfl)
@[simp]theorem aj'{v:Value}:AV.cR (.p (.sc v))=some [.p (.sc v)]:=(rfl)
@[simp]theorem aeY:AV.cR (.p .nil)=some [.p .nil]:=(rfl)
@[simp]theorem aka{xs:List PC}:AV.cR (.p (.sl xs))=some [.p (.sl xs)]:=(rfl)
@[simp]theorem ZM{xs:List PC}:AV.cR (.p (.agg false xs))=some (xs.map .p):=(rfl)
@[simp]theorem aeZ{i o:Nat}:AV.cR (.obj i o)=some [.obj i o]:=(rfl)
@[simp]theorem ae0{i:Nat}{xs:List PC}:AV.cR (.own i xs)=some [.own i xs]:=(rfl)
@[simp]theorem ZN{xs:List PC}:AV.cR (.full xs)=some [.full xs]:=(rfl)
@[simp]theorem ZO{id f n s:Nat}{m:Option Nat}:AV.cR (.view id f n s m)=some [.view id f n s m]:=(rfl)
@[simp]theorem ae1{xs:List AV}:AV.cR (.agg false xs)=some xs:=(rfl)
def Je(P:Program)(n:Nat)(k:AV->Prop)(ps:List (Nat×AV)):Option (TypeId×Nat×Nat)->Prop
 |some (_,sz,_)=>0<sz/\bq 0 ps=true/\ps.length=n/\n*sz<=16777216/\match dR (ps.map fun p=>p.2.nm)with
  |some ys=>ys.all (fun y=>y.width==sz&&cF y)=true/\k (.full ys)
  |none=>False
 |none=>False
def N2(k:AV->Prop)(sz:Nat):Option (List PC)->Prop
 |some ys=>ys.all (fun y=>y.width==sz&&cF y)=true/\k (.full ys)
 |none=>False
@[congr]theorem ZP{n:Nat}{ps ps':List (Nat×AV)}{f g:Option (TypeId×Nat×Nat)}(h:ps=ps')(h2:f=g):Je P n k ps f=Je P n k ps' g:=by rw[h,h2]
@[congr]theorem ZQ{sz:Nat}{f g:Option (List PC)}(h2:f=g):N2 k sz f=N2 k sz g:=by rw[h2]
@[simp]theorem apE{t:TypeId}{n:Nat}{ps:List (Nat×AV)}:xF P t n k ps=Je P n k ps (cV P t):=by
 simp only[xF,Je];cases cV P t<;>rfl
@[simp]theorem ae2{n:Nat}{ps:List (Nat×AV)}{e:TypeId}{sz bV:Nat}:Je P n k ps (some (e,sz,bV))=(0<sz/\bq 0 ps=true/\ps.length=n/\n*sz<=16777216/\N2 k sz (dR (ps.map fun p=>p.2.nm))):=by
 simp only[Je,N2]
@[simp]theorem ae3{sz:Nat}{ys:List PC}:N2 k sz (some ys)=(ys.all (fun y=>y.width==sz&&cF y)=true/\k (.full ys)):=(rfl)
@[simp]theorem Vj{α:Type}{i:Nat}:bq i ([]:List (Nat×α))=true:=(rfl)
@[simp]theorem Tp{α:Type}{i j:Nat}{x:α}{l:List (Nat×α)}:bq i ((j,x)::l)=(j==i&&bq (i+1) l):=(rfl)
@[simp]theorem akb{v:Value}:cF (.sc v)=true:=(rfl)
@[simp]theorem ae4:cF .nil=true:=(rfl)
@[simp]theorem akc{v:List PC}:cF (.sl v)=true:=(rfl)
@[simp]theorem ae5{b:Bool}{x:List PC}:cF (.agg b x)=!b:=(rfl)
def N3(t:TypeId)(tb:Tb)(kt:AV->Tb->Prop):Option (List AV)->Prop
 |some zs=>kt (.obj tb.nx 0) (tb.aT ⟨t,zs.length,zs⟩)
 |none=>False
@[congr]theorem ZR{t:TypeId}{f g:Option (List AV)}(h:f=g):N3 t tb kt f=N3 t tb kt g:=by rw[h]
@[simp]theorem aoG{t:TypeId}{x:AV}:EL P t tb kt x=N3 t tb kt x.cR:=by
 simp only[EL,N3];cases x.cR<;>rfl
@[simp]theorem ae6{t:TypeId}{zs:List AV}:N3 t tb kt (some zs)=kt (.obj tb.nx 0) (tb.aT ⟨t,zs.length,zs⟩):=(rfl)
@[simp]theorem Vk{t:TypeId}{zs:List PC}:xR P tb kt (some zs) t=kt (.obj tb.nx 0) (tb.aT ⟨t,zs.length,zs.map .p⟩):=(rfl)
def Jf(kt:AV->Tb->Prop)(tb:Tb):Option AV->Prop
 |some y=>kt y tb
 |none=>False
@[congr]theorem ZS{f g:Option AV}(h2:f=g):Jf kt tb f=Jf kt tb g:=by rw[h2]
@[simp]theorem ae7{y:AV}:Jf kt tb (some y)=kt y tb:=(rfl)
def ldG(kt:AV->Tb->Prop)(tb:Tb)(off:Nat):Option Ob->Option Bool->Option Nat->Prop
 |some ob,some ag,some s=>Jf kt tb (ji off s ag ob.xs)
 |_,_,_=>False
@[congr]theorem ae8{off off':Nat}{f f':Option Ob}{g g':Option Bool}{h h':Option Nat}(e0:off=off')(e1:f=f')(e2:g=g')(e3:h=h'):ldG kt tb off f g h=ldG kt tb off' f' g' h':=by rw[e0,e1,e2,e3]
@[simp]theorem ae9{t:TypeId}{id off:Nat}:loadT P t tb kt (.obj id off)=ldG kt tb off (lk id tb.bx) (bR P t) (aP P t):=by
 simp only[loadT,ldG];cases lk id tb.bx<;>cases bR P t<;>cases aP P t<;>simp only[Jf];rename_i a b c;cases ji off c b a.xs<;>rfl
@[simp]theorem akd{off s:Nat}{ob:Ob}{ag:Bool}:ldG kt tb off (some ob) (some ag) (some s)=Jf kt tb (ji off s ag ob.xs):=(rfl)
@[simp]theorem amr{t:TypeId}{x:PC}:loadT P t tb kt (.p x)=uz P t (qK kt tb) (.p x):=(rfl)
@[simp]theorem ae_{t:TypeId}{id off l:Nat}:zC P cx l t tb kt (.obj id off)=(id=cx.lb l/\loadT P t tb kt (.obj id off)):=(rfl)
def nU(P:Program)(t:TypeId)(tb:Tb)(kt:AV->Tb->Prop)(id off:Nat):Option (List AV)->Option Ob->Prop
 |some zs,some ob=>aP P t=some zs.length/\off+zs.length<=ob.xs.length/\kt .any (tb.aQ id {ob with xs:=ob.xs.take off++zs++ob.xs.drop (off+zs.length)})
 |_,_=>False
@[congr]theorem ae'{t:TypeId}{id off off':Nat}{f f':Option (List AV)}{g g':Option Ob}(e0:off=off')(e1:f=f')(e2:g=g'):nU P t tb kt id off f g=nU P t tb kt id off' f' g':=by rw[e0,e1,e2]
@[simp]theorem ZT{t:TypeId}{id off:Nat}{y:AV}:storeT P t tb kt (.obj id off) y=nU P t tb kt id off y.cR (lk id tb.bx):=by
 simp only[storeT,nU];cases y.cR with
 |none=>rfl
 |some zs=>simp only;cases lk id tb.bx<;>rfl
@[simp]theorem ake{t:TypeId}{id off:Nat}{zs:List AV}{ob:Ob}:nU P t tb kt id off (some zs) (some ob)=(aP P t=some zs.length/\off+zs.length<=ob.xs.length/\kt .any (tb.aQ id {ob with xs:=ob.xs.take off++zs++ob.xs.drop (off+zs.length)})):=(rfl)
section
variable{id id' f n s f' n' s':Nat}{m m':Option Nat}{y:AV}{ob iz:Ob}{es:Option Nat}
@[simp]theorem akf:cpT tb kt es (.view id f n s m) y=(es=some s/\cpO tb kt id f n s y (lk id tb.bx)):=(rfl)
@[congr]theorem afa{y y':AV}{a b:Option Ob}(h:y=y')(h2:a=b):cpO tb kt id f n s y a=cpO tb kt id f n s y' b:=by rw[h,h2]
@[simp]theorem akg:cpO tb kt id f n s y (some ob)=(ob.sz=s/\Zi (tb.aQ id {ob with xs:=bB (f*s) ob.xs}) kt id f n s {ob with xs:=bB (f*s) ob.xs} y):=(rfl)
@[congr]theorem afb{tb aO:Tb}{o o':Ob}{y y':AV}(h0:tb=aO)(h:o=o')(h2:y=y'):Zi tb kt id f n s o y=Zi aO kt id f n s o' y':=by rw[h0,h,h2]
@[simp]theorem akh:Zi tb kt id f n s ob (.view id' f' n' s' m')=(s'=s/\cpG tb kt id f n s ob n' f' (lk id' tb.bx)):=(rfl)
@[congr]theorem afc{a b:Option Ob}(h:a=b):cpG tb kt id f n s ob n' f' a=cpG tb kt id f n s ob n' f' b:=by rw[h]
@[simp]theorem aki:cpG tb kt id f n s ob n' f' (some iz)=((f'+Nat.min n' n)*s<=iz.xs.length/\kt (.p (.int (Nat.min n' n:Nat))) (tb.aQ id {ob with xs:=ob.xs.take (f*s)++(iz.xs.drop (f'*s)).take (Nat.min n' n*s)++ob.xs.drop (f*s+Nat.min n' n*s)})):=(rfl)
@[simp]theorem aoH{ys:List PC}:Zi tb kt id f n s ob (.p (.sl ys))=((∀y∈ys,y.width=s)/\(∀y∈ys,cF y=true)/\kt (.p (.int (Nat.min ys.length n:Nat))) (tb.aQ id {ob with xs:=ob.xs.take (f*s)++(ys.take (Nat.min ys.length n)).flatMap aV++ob.xs.drop (f*s+Nat.min ys.length n*s)})):=(rfl)
def clG(tb:Tb)(kt:AV->Tb->Prop)(id f n s:Nat)(z:List PC):Option Ob->Prop
 |some ob=>ob.sz=s/\f*s<=ob.xs.length/\kt .any (tb.aQ id {ob with xs:=ob.xs.take (f*s)++(fC n z).map .p++ob.xs.drop (f*s+n*s)})
 |none=>False
@[congr]theorem afd{z:List PC}{a b:Option Ob}(h:a=b):clG tb kt id f n s z a=clG tb kt id f n s z b:=by rw[h]
@[simp]theorem akj{e:TypeId}{bV:Nat}{z:List PC}(hz:bJ P e=some z):Yp P tb kt (.view id f n s' m) (some (e,s,bV))=(s'=s/\0<s/\clG tb kt id f n s z (lk id tb.bx)):=by
 simp only[Yp,hz,clG];cases lk id tb.bx<;>rfl
@[simp]theorem akk{z:List PC}:clG tb kt id f n s z (some ob)=(ob.sz=s/\f*s<=ob.xs.length/\kt .any (tb.aQ id {ob with xs:=ob.xs.take (f*s)++(fC n z).map .p++ob.xs.drop (f*s+n*s)})):=(rfl)
def mkG(tb:Tb)(kt:AV->Tb->Prop)(e:TypeId)(s bV:Nat)(n c:Int):Option (List PC)->Prop
 |some z=>0<s/\0<=n/\n<=c/\bV*c.toNat<=281474976710656/\c.toNat<=maxLen/\kt (.view tb.nx 0 n.toNat s (some c.toNat)) (tb.aT ⟨e,s,(fC c.toNat z).map .p⟩)
 |none=>False
@[congr]theorem afe{e:TypeId}{bV:Nat}{n c:Int}{a b:Option (List PC)}(h:a=b):mkG tb kt e s bV n c a=mkG tb kt e s bV n c b:=by rw[h]
@[simp]theorem akl{e:TypeId}{bV:Nat}{k1 k2:IntKind}{n c:Int}:Yq P tb kt (.p (.sc (.int k1 n))) (.p (.sc (.int k2 c))) (some (e,s,bV))=mkG tb kt e s bV n c (bJ P e):=by
 simp only[Yq,mkG];cases bJ P e<;>rfl
@[simp]theorem akm{e:TypeId}{bV:Nat}{n c:Int}{z:List PC}:mkG tb kt e s bV n c (some z)=(0<s/\0<=n/\n<=c/\bV*c.toNat<=281474976710656/\c.toNat<=maxLen/\kt (.view tb.nx 0 n.toNat s (some c.toNat)) (tb.aT ⟨e,s,(fC c.toNat z).map .p⟩)):=(rfl)
end
@[simp]theorem aff{u e:TypeId}{sz bV:Nat}{x y:AV}:yM P u tb kt x y (some (e,sz,bV))=E9 P u e sz bV tb kt y (C' tb.rw e sz x):=(rfl)
@[congr]theorem ZU{u e:TypeId}{sz bV:Nat}{y y':AV}{z z':Option (Option Nat×List PC)}(h2:y=y')(h3:z=z'):E9 P u e sz bV tb kt y z=E9 P u e sz bV tb kt y' z':=by rw[h2,h3]
@[simp]theorem akn{rw:List (Nat×TypeId×Nat)}{e:TypeId}{sz id:Nat}{xs:List PC}:C' rw e sz (.own id xs)=if lk id rw=some (e,sz)then some (some id,xs)else none:=(rfl)
@[simp]theorem ako{rw:List (Nat×TypeId×Nat)}{e:TypeId}{sz:Nat}:C' rw e sz (.p .nil)=some (none,[]):=(rfl)
section
variable{u e:TypeId}{sz bV:Nat}{dO:Option Nat}{xs:List PC}
@[simp]theorem ams{ys:List PC}:E9 P u e sz bV tb kt (.p (.sl ys)) (some (dO,xs))=NK P u e sz bV dO xs tb kt ys:=(rfl)
@[simp]theorem aoI{ys:List PC}(h:(aJ P u).isSome=true):NK P u e (sz+1) bV dO xs tb kt ys=((∀x∈xs,x.width=sz+1)/\(∀y∈ys,y.width=sz+1)/\(xs.length+ys.length)*bV<=140737488355328/\xs.length+ys.length<=9223372036854775807/\kt (.own tb.nx (xs++ys)) (nK tb dO e (sz+1))):=by simp[NK,h]
end
@[simp]theorem Tq{l:List UInt8}:(ah l).length=l.length:=by simp[ah]
variable{R:List AV->Tb->Prop}
@[simp]theorem aoJ{fn:Func}:ve P fn R .normal st=tT P R st.tb (jv P st fn.results.toList):=(rfl)
@[simp]theorem aoK{fn:Func}:ve P fn R .ret st=tT P R st.tb (jv P st fn.results.toList):=(rfl)
@[congr]theorem ZV{tb:Tb}{f g:Option (List AV)}(h:f=g):tT P R tb f=tT P R tb g:=by rw[h]
@[simp]theorem afg{tb:Tb}{zs:List AV}:tT P R tb (some zs)=R zs tb:=(rfl)
def Ds:Option AV->Option (List AV)->Option (List AV)
 |some x,some l=>some (x::l)
 |_,_=>none
@[simp]theorem amt:jv P st []=some []:=(rfl)
@[simp]theorem amu{t:Tmp}{l:List ResultVar}:jv P st (.tmp t::l)=Ds (some (st.sl t)) (jv P st l):=by
 simp only[jv,Ds];cases jv P st l<;>rfl
@[simp]theorem akp{t:Tmp}{ty:TypeId}{l:List ResultVar}:jv P st (.cell t ty::l)=Ds (jv.zE P st (st.sl t) ty) (jv P st l):=by
 simp only[jv,Ds];cases jv.zE P st (st.sl t) ty<;>cases jv P st l<;>rfl
@[simp]theorem ZW{x:AV}{l:List AV}:Ds (some x) (some l)=some (x::l):=(rfl)
def N4(off:Nat):Option Ob->Option Bool->Option Nat->Option AV
 |some ob,some ag,some s=>ji off s ag ob.xs
 |_,_,_=>none
@[simp]theorem afh{id off:Nat}{ty:TypeId}:jv.zE P st (.obj id off) ty=N4 off (lk id st.tb.bx) (bR P ty) (aP P ty):=by
 simp only[jv.zE,N4];cases lk id st.tb.bx<;>cases bR P ty<;>cases aP P ty<;>rfl
@[simp]theorem ZX{off s:Nat}{ob:Ob}{ag:Bool}:N4 off (some ob) (some ag) (some s)=ji off s ag ob.xs:=(rfl)
@[simp]theorem akq{ys:List PC}{zs:List AV}{tb:Tb}:Gl ys zs tb=toAll zs (ys.map .p):=(rfl)
@[simp]theorem toAll_nil:toAll [] []=True:=by simp only[toAll]
@[simp]theorem toAll_cons{x y:AV}{l m:List AV}:toAll (x::l) (y::m)=(x.to y/\toAll l m):=by simp only[toAll]
@[simp]theorem amv{t t':Bool}{xs ys:List AV}:(AV.agg t xs).to (.agg t' ys)=(t=t'/\toAll xs ys):=by simp only[AV.to]
theorem Dt{x y:AV}(h:∀t ys,y≠ .agg t ys):x.to y=x.Oq y:=by
 unfold AV.to;split
 ·exact absurd rfl (h _ _)
 ·rfl
theorem aoL{x:AV}{y:PC}:x.to (.p y)=∃p,x.pc=some p/\(y=p\/y=p.wk):=by
 rw[Dt (by simp)];apply propext;constructor
 ·rintro(rfl|⟨p,h,h1|h1⟩|⟨rfl,h⟩|⟨_,_,_,_,_,_,h⟩)
  ·exact⟨y,rfl,.inl rfl⟩
  ·injection h1 with h1;exact⟨p,h,.inl h1⟩
  ·injection h1 with h1;exact⟨p,h,.inr h1⟩
  ·cases h
  ·cases h
 ·rintro⟨p,h,rfl|rfl⟩
  ·exact .inr (.inl ⟨_,h,.inl rfl⟩)
  ·exact .inr (.inl ⟨_,h,.inr rfl⟩)
def toG(y:PC):Option PC->Prop
 |some p=>y=p\/y=p.wk
 |none=>False
@[simp]theorem apF{x:AV}{y:PC}:x.to (.p y)=toG y x.pc:=by
 rw[aoL];cases x.pc<;>simp[toG]
@[simp]theorem toG_sc{y:PC}{v:Value}:toG y (some (.sc v))=(y= .sc v):=by simp[toG]
@[simp]theorem toG_sl{y:PC}{v:List PC}:toG y (some (.sl v))=(y= .sl v):=by simp[toG]
@[simp]theorem toG_nil{y:PC}:toG y (some .nil)=(y= .nil\/y= .sl []):=by simp[toG]
@[simp]theorem toG_ref{y x:PC}:toG y (some (.ref x))=(y= .ref x):=by simp[toG]
@[simp]theorem toG_fn{y:PC}{f:Fn}{x:List PC}:toG y (some (.fn f x))=(y= .fn f x):=by simp[toG]
@[simp]theorem toG_agg{y:PC}{b:Bool}{x:List PC}:toG y (some (.agg b x))=(y= .agg b x\/y= .agg b (x.map PC.Oe)):=by simp[toG]
@[simp]theorem aoM{x:AV}{i:Nat}{ys:List PC}:x.to (.own i ys)=(x= .own i ys):=by
 rw[Dt (by simp)];simp[AV.Oq,eq_comm]
@[simp]theorem aoN{x:AV}{i:Fn}{ys:List AV}:x.to (.jZ i ys)=(x= .jZ i ys):=by
 rw[Dt (by simp)];simp[AV.Oq,eq_comm]
@[simp]theorem aoO{x:AV}{i:TypeId}{y:AV}:x.to (.kV i y)=(x= .kV i y):=by
 rw[Dt (by simp)];simp[AV.Oq,eq_comm]
@[simp]theorem aoP{x:AV}{i o:Nat}:x.to (.obj i o)=(x= .obj i o):=by
 rw[Dt (by simp)];simp[AV.Oq,eq_comm]
@[simp]theorem akr{x:AV}{i o n s m:Nat}:x.to (.view i o n s (some m))=(x= .view i o n s (some m)):=by
 rw[Dt (by simp)];simp[AV.Oq,eq_comm]
@[simp]theorem aks{x:AV}{i o n s:Nat}:x.to (.view i o n s none)=(∃m,x= .view i o n s m):=by
 rw[Dt (by simp)];simp only[AV.Oq,reduceCtorEq,false_or,or_false,and_false,exists_false];apply propext;constructor
 ·rintro(h|⟨id,o',n',s',m,h1,h2⟩)
  ·exact⟨none,h.symm⟩
  ·injection h2 with e1 e2 e3 e4;subst e1;subst e2;subst e3;subst e4;exact⟨m,h1⟩
 ·rintro⟨m,rfl⟩;exact .inr ⟨_,_,_,_,_,rfl,rfl⟩
@[simp]theorem amw{x:AV}{ys:List PC}:x.to (.full ys)=(x= .full ys\/x= .p .nil/\ys=[]):=by
 rw[Dt (by simp)];simp[AV.Oq,eq_comm]
theorem af{n:Int}(h1:-9223372036854775808<=n)(h2:n<=9223372036854775807):IntKind.i64.wrap n=n:=IntWalk.i64_in n ⟨h1,h2⟩
end
end Go.Av
