/- DiskShapes, part 9: an abstract interpreter over any program's form, with its proof of soundness; no condition. -/
import Derived.Test.YtgkdpbambfgahaaGreatDoorWah
set_option linter.all false
set_option maxRecDepth 100000
set_option maxHeartbeats 64000000
namespace Go.Av
open Go.RowKit
section
variable{P:Program}{Q:Exit->AS->Prop}{k:AV->Prop}{st:AS}
@[simp]theorem akD(l:List UInt8):bs (ByteArray.mk l.toArray)=l:=(rfl)
@[simp]theorem akE{x y:AV}:tu k x y (.p (.sc (.bool true)))=k x:=by simp[tu]
@[simp]theorem akF{x y:AV}:tu k x y (.p (.sc (.bool false)))=k y:=by simp[tu]
@[simp]theorem alN{y:PC}:Jp k (.p y)=k (.p (.ref y)):=(rfl)
@[simp]theorem afS{v:Value}:PC.width (.sc v)=1:=(rfl)
@[simp]theorem abS:PC.width .nil=1:=(rfl)
@[simp]theorem afT{xs:List PC}:PC.width (.sl xs)=1:=(rfl)
@[simp]theorem abT{xs:List PC}:PC.width (.agg false xs)=xs.length:=(rfl)
@[simp]theorem ahY{t:TypeId}{v:Value}:fits P t (.sc v)=(bL P t==some false):=(rfl)
@[simp]theorem afU{t:TypeId}:fits P t .nil=(bL P t==some false):=(rfl)
@[simp]theorem ahZ{t:TypeId}{v:List PC}:fits P t (.sl v)=(bL P t==some false):=(rfl)
@[simp]theorem afV{t:TypeId}{v:PC}:fits P t (.ref v)=(bL P t==some false):=(rfl)
@[simp]theorem ah0{t:TypeId}{f:Fn}{v:List PC}:fits P t (.fn f v)=(bL P t==some false):=(rfl)
@[simp]theorem afW{t:TypeId}{xs:List PC}:fits P t (.agg false xs)=(bL P t==some true&&aO P t==some xs.length):=(rfl)
def Fq(k:AV->Prop)(y:PC)(b:Bool):Prop:=b=true/\k (.p y)
@[congr]theorem VP{y:PC}{b c:Bool}(h:b=c):Fq k y b=Fq k y c:=by rw[h]
@[simp]theorem afX{t:TypeId}{y:PC}:vW P t k (.p (.ref y))=Fq k y (fits P t y):=(rfl)
@[simp]theorem ah1{y:PC}:Fq k y true=k (.p y):=by simp[Fq]
def faA(k:AV->Prop)(xs:List PC):Option (Nat×Nat×Bool)->Prop
 |some (off,s,a)=>match part off s a xs with
  |some y=>s≠0/\k (.p (.ref y))
  |none=>False
 |none=>False
def faB(k:AV->Prop)(s:Nat):Option PC->Prop
 |some y=>s≠0/\k (.p (.ref y))
 |none=>False
@[congr]theorem abU{xs ys:List PC}{f g:Option (Nat×Nat×Bool)}(h:xs=ys)(h2:f=g):faA k xs f=faA k ys g:=by rw[h,h2]
@[congr]theorem abV{s:Nat}{f g:Option PC}(h2:f=g):faB k s f=faB k s g:=by rw[h2]
@[simp]theorem QE{t:TypeId}{i:Nat}{xs:List PC}:oO P t i k (.p (.ref (.agg false xs)))=faA k xs (di P t i):=(rfl)
@[simp]theorem afY{xs:List PC}{off s:Nat}{a:Bool}:faA k xs (some (off,s,a))=faB k s (part off s a xs):=(rfl)
@[simp]theorem afZ{s:Nat}{y:PC}:faB k (s+1) (some y)=k (.p (.ref y)):=by simp[faB]
def fiA(k:AV->Prop)(xs:List PC):Option (Nat×Nat×Bool)->Prop
 |some (off,s,a)=>match part off s a xs with
  |some y=>k (.p y)
  |none=>False
 |none=>False
def Qd(k:AV->Prop):Option PC->Prop
 |some y=>k (.p y)
 |none=>False
@[congr]theorem abW{xs ys:List PC}{f g:Option (Nat×Nat×Bool)}(h:xs=ys)(h2:f=g):fiA k xs f=fiA k ys g:=by rw[h,h2]
@[congr]theorem ZK{f g:Option PC}(h2:f=g):Qd k f=Qd k g:=by rw[h2]
@[simp]theorem abX{t:TypeId}{i:Nat}{xs:List PC}:yo P t i k (.p (.agg false xs))=fiA k xs (di P t i):=(rfl)
@[simp]theorem af0{xs:List PC}{off s:Nat}{a:Bool}:fiA k xs (some (off,s,a))=Qd k (part off s a xs):=(rfl)
@[simp]theorem abY{y:PC}:Qd k (some y)=k (.p y):=(rfl)
@[simp]theorem af1{off:Nat}{xs:List PC}:part off 1 false xs=xs[off]?:=(rfl)
@[simp]theorem af2{off s:Nat}{xs:List PC}:part off s true xs=if off+s<=xs.length then some (.agg false ((xs.drop off).take s))else none:=(rfl)
def iaA(P:Program)(t:TypeId)(k:AV->Prop)(n:Int):Option PC->Prop
 |some y=>0<=n/\aH P t=some y.width/\k (.p (.ref y))
 |none=>False
@[congr]theorem abZ{t:TypeId}{n:Int}{f g:Option PC}(h2:f=g):iaA P t k n f=iaA P t k n g:=by rw[h2]
@[simp]theorem Ui{t:TypeId}{xs:List PC}{c:IntKind}{n:Int}:eY P t k (.p (.sl xs)) (.p (.sc (.int c n)))=iaA P t k n (xs[n.toNat]?):=by
 cases hz:xs[n.toNat]?<;>simp only[eY,iaA,hz,and_false]
@[simp]theorem af3{t:TypeId}{n:Int}{y:PC}(h0:0<=n)(h:aH P t=some y.width):iaA P t k n (some y)=k (.p (.ref y)):=by simp[iaA,h0,h]
def ixA(P:Program)(t:TypeId)(k:AV->Prop)(n:Int):Option UInt8->Prop
 |some c=>0<=n/\isStr P t=true/\k (.p (.sc (.int .u8 c.toNat)))
 |none=>False
@[congr]theorem ab0{t:TypeId}{n:Int}{f g:Option UInt8}(h2:f=g):ixA P t k n f=ixA P t k n g:=by rw[h2]
@[simp]theorem ab1{t:TypeId}{s:ByteArray}{c:IntKind}{n:Int}:sw P t k (.p (.sc (.string s))) (.p (.sc (.int c n)))=ixA P t k n ((bs s)[n.toNat]?):=by
 cases hz:(bs s)[n.toNat]?<;>simp only[sw,ixA,hz,and_false]
@[simp]theorem af4{t:TypeId}{n:Int}{c:UInt8}(h0:0<=n)(h:isStr P t=true):ixA P t k n (some c)=k (.p (.sc (.int .u8 c.toNat))):=by simp[ixA,h0,h]
@[simp]theorem VQ{i:Nat}{xs:List PC}:ql i k (.p (.agg true xs))=Qd k (xs[i]?):=(rfl)
@[simp]theorem ab2{t:TypeId}{s:ByteArray}{c:IntKind}{i:Int}(h:isStr P t=true):gR P t (some (.p (.sc (.int c i)))) none k (.p (.sc (.string s)))=(0<=i/\i.toNat<=(bs s).length/\k (.p (.str ((bs s).drop i.toNat)))):=by
 simp[gR,BW,pO,pP,h]
@[simp]theorem ab3{t:TypeId}{s:ByteArray}{d:IntKind}{j:Int}(h:isStr P t=true):gR P t none (some (.p (.sc (.int d j)))) k (.p (.sc (.string s)))=(0<=j/\j.toNat<=(bs s).length/\k (.p (.str ((bs s).take j.toNat)))):=by
 simp[gR,BW,pO,pP,h]
@[simp]theorem ab4{t:TypeId}{xs:List PC}{c:IntKind}{i:Int}(h:(aH P t).isSome=true):gR P t (some (.p (.sc (.int c i)))) none k (.p (.sl xs))=((∀y∈xs,aH P t=some y.width)/\0<=i/\i.toNat<=xs.length/\k (.p (.sl (xs.drop i.toNat)))):=by
 simp[gR,BW,pO,pP,h]
@[simp]theorem ab5{t:TypeId}{xs:List PC}{d:IntKind}{j:Int}(h:(aH P t).isSome=true):gR P t none (some (.p (.sc (.int d j)))) k (.p (.sl xs))=((∀y∈xs,aH P t=some y.width)/\0<=j/\j.toNat<=xs.length/\k (.p (.sl (xs.take j.toNat)))):=by
 simp[gR,BW,pO,pP,h]
@[simp]theorem ab6{t:TypeId}{xs:List PC}{c d:IntKind}{i j:Int}(h:(aH P t).isSome=true):gR P t (some (.p (.sc (.int c i)))) (some (.p (.sc (.int d j)))) k (.p (.sl xs))=((∀y∈xs,aH P t=some y.width)/\0<=i/\0<=j/\i.toNat<=j.toNat/\j.toNat<=xs.length/\k (.p (.sl ((xs.take j.toNat).drop i.toNat)))):=by simp[gR,BW,pO,pP,h]
section
variable{t:TypeId}{c d:IntKind}{x y:Int}
@[simp]theorem ah2:bC P .add t k (.p (.sc (.int c x))) (.p (.sc (.int c y)))=k (.p (.sc (.int c (c.wrap (x+y))))):=by simp[bC,iC]
@[simp]theorem ah3:bC P .sub t k (.p (.sc (.int c x))) (.p (.sc (.int c y)))=k (.p (.sc (.int c (c.wrap (x-y))))):=by simp[bC,iC]
@[simp]theorem ah4:bC P .mul t k (.p (.sc (.int c x))) (.p (.sc (.int c y)))=k (.p (.sc (.int c (c.wrap (x*y))))):=by simp[bC,iC]
@[simp]theorem ah5:bC P .quo t k (.p (.sc (.int c x))) (.p (.sc (.int c y)))=(y≠0/\k (.p (.sc (.int c (c.wrap (x.tdiv y)))))):=by simp[bC,iC]
@[simp]theorem ah6:bC P .rem t k (.p (.sc (.int c x))) (.p (.sc (.int c y)))=(y≠0/\k (.p (.sc (.int c (x.tmod y))))):=by simp[bC,iC]
@[simp]theorem ah7:bC P .and t k (.p (.sc (.int c x))) (.p (.sc (.int c y)))=k (.p (.sc (.int c (bits .and c x y)))):=by simp[bC,iC]
@[simp]theorem akG:bC P .or t k (.p (.sc (.int c x))) (.p (.sc (.int c y)))=k (.p (.sc (.int c (bits .or c x y)))):=by simp[bC,iC]
@[simp]theorem ah8:bC P .xor t k (.p (.sc (.int c x))) (.p (.sc (.int c y)))=k (.p (.sc (.int c (bits .xor c x y)))):=by simp[bC,iC]
@[simp]theorem ah9:bC P .shl t k (.p (.sc (.int c x))) (.p (.sc (.int d y)))=(0<=y/\k (.p (.sc (.int c (c.wrap (x*2^min y.toNat c.bits)))))):=by simp[bC,iC]
@[simp]theorem ah_:bC P .shr t k (.p (.sc (.int c x))) (.p (.sc (.int d y)))=(0<=y/\k (.p (.sc (.int c (x.fdiv (2^min y.toNat c.bits)))))):=by simp[bC,iC]
@[simp]theorem ah':bC P .eql t k (.p (.sc (.int c x))) (.p (.sc (.int c y)))=k (.p (.sc (.bool (x==y)))):=by simp[bC,iC]
@[simp]theorem aia:bC P .neq t k (.p (.sc (.int c x))) (.p (.sc (.int c y)))=k (.p (.sc (.bool (x !=y)))):=by simp[bC,iC]
@[simp]theorem aib:bC P .lss t k (.p (.sc (.int c x))) (.p (.sc (.int c y)))=k (.p (.sc (.bool (decide (x<y))))):=by simp[bC,iC]
@[simp]theorem aic:bC P .leq t k (.p (.sc (.int c x))) (.p (.sc (.int c y)))=k (.p (.sc (.bool (decide (x<=y))))):=by simp[bC,iC]
@[simp]theorem aid:bC P .gtr t k (.p (.sc (.int c x))) (.p (.sc (.int c y)))=k (.p (.sc (.bool (decide (y<x))))):=by simp[bC,iC]
@[simp]theorem aie:bC P .geq t k (.p (.sc (.int c x))) (.p (.sc (.int c y)))=k (.p (.sc (.bool (decide (y<=x))))):=by simp[bC,iC]
end
section
variable{t:TypeId}{x y:ByteArray}
@[simp]theorem af5:bC P .add t k (.p (.sc (.string x))) (.p (.sc (.string y)))=((bs x).length+(bs y).length<=9223372036854775807/\k (.p (.str (bs x++bs y)))):=by simp[bC,iC]
@[simp]theorem af6:bC P .eql t k (.p (.sc (.string x))) (.p (.sc (.string y)))=k (.p (.sc (.bool (bs x==bs y)))):=by simp[bC,iC]
@[simp]theorem af7:bC P .neq t k (.p (.sc (.string x))) (.p (.sc (.string y)))=k (.p (.sc (.bool (bs x !=bs y)))):=by simp[bC,iC]
@[simp]theorem af8:bC P .lss t k (.p (.sc (.string x))) (.p (.sc (.string y)))=k (.p (.sc (.bool (Op.bytesLess (bs x) (bs y))))):=by simp[bC,iC]
@[simp]theorem af9:bC P .leq t k (.p (.sc (.string x))) (.p (.sc (.string y)))=k (.p (.sc (.bool (Op.bytesLess (bs x) (bs y)||bs x==bs y)))):=by simp[bC,iC]
@[simp]theorem af_:bC P .gtr t k (.p (.sc (.string x))) (.p (.sc (.string y)))=k (.p (.sc (.bool !(Op.bytesLess (bs x) (bs y)||bs x==bs y)))):=by simp[bC,iC]
@[simp]theorem af':bC P .geq t k (.p (.sc (.string x))) (.p (.sc (.string y)))=k (.p (.sc (.bool !(Op.bytesLess (bs x) (bs y))))):=by simp[bC,iC]
end
@[simp]theorem aga{t:TypeId}{x y:Bool}(h:isBool P t=true):bC P .neq t k (.p (.sc (.bool x))) (.p (.sc (.bool y)))=k (.p (.sc (.bool (x !=y)))):=by simp[bC,iC,h]
@[simp]theorem akH{b:Bool}:tv .not k (.p (.sc (.bool b)))=k (.p (.sc (.bool !b))):=by simp[tv]
@[simp]theorem akI{c:IntKind}{n:Int}:tv .xor k (.p (.sc (.int c n)))=k (.p (.sc (.int c (bits .xor c (if c.signed then-1 else c.max) n)))):=by simp[tv]
@[simp]theorem akJ{t:TypeId}{xs:List PC}:saW P t k (.p (.sl xs))=saA k xs (ic P t):=(rfl)
@[simp]theorem agb{xs:List PC}{m s:Nat}{b:Bool}:saA k xs (some (m,s,b))=(s=1/\0<m/\m<=xs.length/\(∀y∈xs,y.plain=true)/\k (.p (.ref (.agg false (xs.take m))))):=(rfl)
def cvI(k:AV->Prop)(n:Int):Option IntKind->Prop
 |some c=>k (.p (.sc (.int c (c.wrap n))))
 |none=>False
@[congr]theorem ab7{n:Int}{f g:Option IntKind}(h2:f=g):cvI k n f=cvI k n g:=by rw[h2]
@[simp]theorem agc{s d:TypeId}{c:IntKind}{n:Int}(h:Av.isSome P s=true):oh P s d k (.p (.sc (.int c n)))=cvI k n (Av.intOf P d):=by
 unfold oh cvI;generalize Av.intOf P d=z;cases z<;>simp[h]
@[simp]theorem agd{n:Int}{c:IntKind}:cvI k n (some c)=k (.p (.sc (.int c (c.wrap n)))):=(rfl)
theorem Fs{a b:List UInt8}(h:af a=af b):a=b:=by
 induction a generalizing b with
 |nil=>cases b<;>simp_all [af]
 |cons x a ih=>
  cases b with
  |nil=>simp[af]at h
  |cons y b=>
   simp only[af,List.map_cons,List.cons.injEq,PC.sc.injEq,Value.int.injEq,true_and]at h;have e:x=y:=by apply UInt8.toNat_inj.1;have:=h.1;omega
   rw[e,ih h.2]
@[simp]theorem aif{s d:TypeId}{l:List UInt8}(h:dR P s=true)(h2:isStr P d=true):oh P s d k (.p (.sl (af l)))=k (.p (.str l)):=by
 simp only[oh,h,h2,true_and];apply propext;constructor
 ·rintro⟨l',e,hk⟩;rw[Fs e];exact hk
 ·intro hk;exact⟨l,rfl,hk⟩
@[simp]theorem ZL{t:TypeId}{i f:Nat}(h:Av.isSome P t=true)(h2:isIface P t=false):sx P t k (.obj i f)=k (.mW t (.obj i f)):=by simp[sx,h,h2]
def Qe(x:PC):Option (List PC)->Option (List PC)
 |some r=>some (x::r)
 |none=>none
@[simp]theorem age:dV []=some []:=(rfl)
@[simp]theorem ab8{x:PC}{l:List AV}:dV (.p x::l)=Qe x (dV l):=by simp only[dV,Qe];generalize dV l=z;cases z<;>rfl
@[simp]theorem ZM{x:PC}{r:List PC}:Qe x (some r)=some (x::r):=(rfl)
@[simp]theorem aih{f:Fn}{ys:List AV}{xs:List PC}:Wm f k ys (some xs)=k (.p (.fn f xs)):=(rfl)
@[simp]theorem aii{f:Fn}{ys:List AV}:Wm f k ys none=k (.lJ f ys):=(rfl)
@[simp]theorem aij{y:PC}:MB k (.p (.ref y))=k (.p (.ref y)):=(rfl)
@[simp]theorem aik{t:TypeId}{s:ByteArray}(h:isStr P t=true):uX P t k (.p (.sc (.string s)))=k (.p (.sc (.int .i64 ((bs s).length:Nat)))):=by simp[uX,h]
@[simp]theorem len_nil{t:TypeId}(h:(aH P t).isSome=true):uX P t k (.p .nil)=k (.p (.sc (.int .i64 0))):=by simp[uX,h]
@[simp]theorem Ms{t:TypeId}{xs:List PC}(h:(aH P t).isSome=true):uX P t k (.p (.sl xs))=k (.p (.sc (.int .i64 (xs.length:Nat)))):=by simp[uX,h]
@[simp]theorem ail{c:IntKind}{x y:Int}:F0 k [.p (.sc (.int c x)),.p (.sc (.int c y))]=k (.p (.sc (.int c (if y<x then y else x)))):=by simp[F0]
@[simp]theorem aim{c:IntKind}{x y:Int}:F3 k [.p (.sc (.int c x)),.p (.sc (.int c y))]=k (.p (.sc (.int c (if y>x then y else x)))):=by simp[F3]
@[simp]theorem agf{g:FuncId}{caps xs:List PC}:uY P k (some xs) (.p (.fn (.func g) caps))=zC P g (xs.map PC.wk++caps) k:=(rfl)
@[simp]theorem alO{v:Value}:PC.wk (.sc v)= .sc v:=(rfl)
@[simp]theorem akK:PC.wk .nil= .sl []:=(rfl)
@[simp]theorem alP{xs:List PC}:PC.wk (.sl xs)= .sl xs:=(rfl)
@[simp]theorem akL{x:PC}:PC.wk (.ref x)= .ref x:=(rfl)
@[simp]theorem alQ{f:Fn}{xs:List PC}:PC.wk (.fn f xs)= .fn f xs:=(rfl)
@[simp]theorem akM{b:Bool}{xs:List PC}:PC.wk (.agg b xs)= .agg b (xs.map PC.Qs):=(rfl)
@[simp]theorem akN{v:Value}:PC.Qs (.sc v)= .sc v:=(rfl)
@[simp]theorem ain:PC.Qs .nil= .sl []:=(rfl)
@[simp]theorem akO{xs:List PC}:PC.Qs (.sl xs)= .sl xs:=(rfl)
@[simp]theorem aio{x:PC}:PC.Qs (.ref x)= .ref x:=(rfl)
attribute [simp] Value.oneCell'
variable{kt:AV->Tb->Prop}{tb:Tb}{cx:Cx}
def faG(k:AV->Prop)(id off:Nat):Option (Nat×Nat×Bool)->Prop
 |some (o,s,_)=>s≠0/\k (.obj id (off+o))
 |none=>False
@[congr]theorem ab9{id off:Nat}{f g:Option (Nat×Nat×Bool)}(h:f=g):faG k id off f=faG k id off g:=by rw[h]
@[simp]theorem aip{t:TypeId}{i id off:Nat}:Uu P t i k (.obj id off)=faG k id off (di P t i):=by
 simp only[Uu,faG];cases di P t i<;>rfl
@[simp]theorem agh{id off o s:Nat}{a:Bool}:faG k id off (some (o,s+1,a))=k (.obj id (off+o)):=by simp[faG]
@[simp]theorem alR{t:TypeId}{i:Nat}{x:PC}:Uu P t i k (.p x)=oO P t i k (.p x):=(rfl)
@[simp]theorem agi{t:TypeId}{id f n s:Nat}{m:Option Nat}{c:IntKind}{j:Int}(h:aH P t=some s):Qx P t k (.view id f n s m) (.p (.sc (.int c j)))=(0<=j/\j<(n:Int)/\k (.obj id ((f+j.toNat)*s))):=by simp[Qx,h]
@[simp]theorem alS{t:TypeId}{c:IntKind}{n:Int}:glW P t k (.p (.sc (.int c n)))=(ic P t=some (16,1,false)/\0<=n/\n<16/\k (.p (.ref (.sc (.int .u32 ((mb.getD n.toNat 0:Nat):Int)))))):=(rfl)
@[simp]theorem alT{t:TypeId}{x:PC}{y:AV}:Qx P t k (.p x) y=eY P t k (.p x) y.nm:=(rfl)
@[simp]theorem aiq{t:TypeId}{i:Nat}{x:List PC}{y:AV}:Qx P t k (.own i x) y=eY P t k (.p (.sl x)) y.nm:=(rfl)
@[simp]theorem agj{t:TypeId}{x:List PC}{y:AV}:Qx P t k (.full x) y=eY P t k (.p (.sl x)) y.nm:=(rfl)
@[simp]theorem akP{t:TypeId}{lo hi:Option AV}{x:Value}:z6 P t lo hi k (.p (.sc x))=gR P t lo hi k (.p (.sc x)):=(rfl)
@[simp]theorem akQ{t:TypeId}{lo hi:Option AV}{x:List PC}:z6 P t lo hi k (.p (.sl x))=gR P t lo hi k (.p (.sl x)):=(rfl)
@[simp]theorem air{t:TypeId}{c:IntKind}{i:Int}(h:(aH P t).isSome=true):z6 P t none (some (.p (.sc (.int c i)))) k (.p .nil)=(0<=i/\i.toNat<=0/\k (.p .nil)):=by simp[z6,vw,pO,pP,h]
@[simp]theorem agk{t:TypeId}{lo hi:Option AV}{x:List PC}:z6 P t lo hi k (.full x)=gR P t lo hi k (.p (.sl x)):=(rfl)
section
variable{t:TypeId}{id f n s m:Nat}{c d:IntKind}{i j:Int}
@[simp]theorem ais(h:aH P t=some s):z6 P t (some (.p (.sc (.int c i)))) none k (.view id f n s (some m))=(f<=m/\0<=i/\i.toNat<=n/\n<=m-f/\k (.view id (f+i.toNat) (n-i.toNat) s (some m))):=by simp[z6,vw,pO,pP,h]
@[simp]theorem ait(h:aH P t=some s):z6 P t none (some (.p (.sc (.int d j)))) k (.view id f n s (some m))=(f<=m/\0<=j/\j.toNat<=m-f/\k (.view id f j.toNat s (some m))):=by simp[z6,vw,pO,pP,h]
@[simp]theorem aiu(h:aH P t=some s):z6 P t (some (.p (.sc (.int c i)))) (some (.p (.sc (.int d j)))) k (.view id f n s (some m))=(f<=m/\0<=i/\0<=j/\i.toNat<=j.toNat/\j.toNat<=m-f/\k (.view id (f+i.toNat) (j.toNat-i.toNat) s (some m))):=by simp[z6,vw,pO,pP,h]
@[simp]theorem aiv(h:aH P t=some s):z6 P t (some (.p (.sc (.int c i)))) none k (.view id f n s none)=(0<=i/\i.toNat<=n/\k (.view id (f+i.toNat) (n-i.toNat) s none)):=by simp[z6,vw,pO,pP,h]
@[simp]theorem aiw(h:aH P t=some s):z6 P t none (some (.p (.sc (.int d j)))) k (.view id f n s none)=(0<=j/\j.toNat<=n/\k (.view id f j.toNat s none)):=by simp[z6,vw,pO,pP,h]
@[simp]theorem aix(h:aH P t=some s):z6 P t (some (.p (.sc (.int c i)))) (some (.p (.sc (.int d j)))) k (.view id f n s none)=(0<=i/\0<=j/\i.toNat<=j.toNat/\j.toNat<=n/\k (.view id (f+i.toNat) (j.toNat-i.toNat) s none)):=by simp[z6,vw,pO,pP,h]
end
@[simp]theorem akR{t:TypeId}{x:PC}:Ap P t k (.p x)=uX P t k (.p x):=(rfl)
@[simp]theorem agl{t:TypeId}{i:Nat}{x:List PC}:Ap P t k (.own i x)=uX P t k (.p (.sl x)):=(rfl)
@[simp]theorem ab_{t:TypeId}{x:List PC}:Ap P t k (.full x)=uX P t k (.p (.sl x)):=(rfl)
@[simp]theorem ab'{t:TypeId}{id f n s:Nat}{m:Option Nat}(h:(aH P t).isSome=true):Ap P t k (.view id f n s m)=k (.p (.int n)):=by simp[Ap,h]
@[simp]theorem agm{t:TypeId}(h:(aH P t).isSome=true):CM P t k (.p .nil)=k (.p (.int 0)):=by simp[CM,h]
@[simp]theorem VR{id f n s m:Nat}:ug (.view id f n s (some (m+1)))=some false:=by cases n<;>rfl
@[simp]theorem acd{t:TypeId}{id f n s m:Nat}(h:(aH P t).isSome=true):CM P t k (.view id f n s (some m))=k (.p (.int ((m-f:Nat):Int))):=by simp[CM,h]
def Qf(k:AV->Prop):Option AV->Prop
 |some y=>k y
 |none=>False
@[congr]theorem ZN{f g:Option AV}(h2:f=g):Qf k f=Qf k g:=by rw[h2]
@[simp]theorem ace{y:AV}:Qf k (some y)=k y:=(rfl)
@[simp]theorem agn{t:TypeId}{i:Nat}{x:PC}:vr P t i k (.p x)=yo P t i k (.p x):=(rfl)
@[simp]theorem acf{off:Nat}{xs:List AV}:ku off 1 false xs=xs[off]?:=(rfl)
@[simp]theorem acg{off s:Nat}{xs:List AV}:ku off s true xs=if off+s<=xs.length then some (.agg false ((xs.drop off).take s))else none:=(rfl)
@[simp]theorem agp{i:Nat}{xs:List AV}:Eg i k (.agg true xs)=Qf k (xs[i]?):=by
 simp only[Eg,Qf];cases xs[i]?<;>rfl
@[simp]theorem akS{i:Nat}{x:PC}:Eg i k (.p x)=ql i k (.p x):=(rfl)
@[simp]theorem agq{id off:Nat}:Gv k (.obj id off)=k (.obj id off):=(rfl)
@[simp]theorem akT{x:PC}:Gv k (.p x)=MB k (.p x):=(rfl)
@[simp]theorem agr{op:BinOp}{t:TypeId}{x:AV}{c:IntKind}{n:Int}:xk P op t k x (.p (.sc (.int c n)))=bC P op t k x.nm (.p (.sc (.int c n))):=(rfl)
@[simp]theorem ags{op:BinOp}{t:TypeId}{x:AV}{s:ByteArray}:xk P op t k x (.p (.sc (.string s)))=bC P op t k x.nm (.p (.sc (.string s))):=(rfl)
@[simp]theorem ach{op:BinOp}{t:TypeId}{x:AV}{b:Bool}:xk P op t k x (.p (.sc (.bool b)))=bC P op t k x.nm (.p (.sc (.bool b))):=(rfl)
def eqA:Option Bool->Option Bool->Option Bool
 |some a,some b=>some (a&&b)
 |_,_=>none
@[simp]theorem agt{op:BinOp}{t:TypeId}{x:AV}(h:(aH P t).isSome=true):xk P op t k x (.p .nil)=uh k op (ug x):=by simp[xk,h]
@[simp]theorem agu{op:BinOp}{t:TypeId}{x:AV}(h:vZ P t=true):xk P op t k x (.p (.sc (.pointer none)))=uh k op (qy x):=by simp[xk,h]
@[congr]theorem ZO{op:BinOp}{f g:Option Bool}(h:f=g):uh k op f=uh k op g:=by rw[h]
@[simp]theorem agv{b:Bool}:uh k .eql (some b)=k (.p (.bool b)):=by simp[uh]
@[simp]theorem agw{b:Bool}:uh k .neq (some b)=k (.p (.bool !b)):=by simp[uh]
@[simp]theorem aci:ug (.p .nil)=some true:=(rfl)
@[simp]theorem agx{l:List PC}:ug (.nn l)=some false:=(rfl)
@[simp]theorem ZP:qy (.p (.sc (.pointer none)))=some true:=(rfl)
@[simp]theorem ZQ{i o:Nat}:qy (.obj i o)=some false:=(rfl)
def Lq(P:Program)(t:TypeId)(k:AV->Prop)(ps:List (Nat×AV)):Option (List PC)->Prop
 |some z=>match oF P t (z.map .p) ps with
  |some zs=>k (.agg false zs)
  |none=>False
 |none=>False
def Qg(k:AV->Prop):Option (List AV)->Prop
 |some zs=>k (.agg false zs)
 |none=>False
@[congr]theorem ZR{t:TypeId}{ps ps':List (Nat×AV)}{f g:Option (List PC)}(h:ps=ps')(h2:f=g):Lq P t k ps f=Lq P t k ps' g:=by rw[h,h2]
@[congr]theorem ZS{f g:Option (List AV)}(h2:f=g):Qg k f=Qg k g:=by rw[h2]
@[simp]theorem agy{t:TypeId}{ps:List (Nat×AV)}(h:bu P t=true):sH P t k ps=Lq P t k ps (bG P t):=by
 simp only[sH,Lq,h,true_and];cases bG P t<;>rfl
@[simp]theorem acj{t:TypeId}{ps:List (Nat×AV)}{z:List PC}:Lq P t k ps (some z)=Qg k (oF P t (z.map .p) ps):=by
 simp only[Lq,Qg]
@[simp]theorem acm{zs:List AV}:Qg k (some zs)=k (.agg false zs):=(rfl)
def Ft(P:Program)(t:TypeId)(cs:List AV)(rest:List (Nat×AV)):Option (Nat×Nat)->Option (List AV)->Option (List AV)
 |some (off,s),some zs=>if zs.length=s/\off+s<=cs.length then oF P t (cs.take off++zs++cs.drop (off+s)) rest else none
 |_,_=>none
@[congr]theorem VS{t:TypeId}{cs cs':List AV}{rest:List (Nat×AV)}{f f':Option (Nat×Nat)}{g g':Option (List AV)}(h:cs=cs')(h2:f=f')(h3:g=g'):Ft P t cs rest f g=Ft P t cs' rest f' g':=by rw[h,h2,h3]
@[simp]theorem acn{t:TypeId}{cs:List AV}:oF P t cs []=some cs:=(rfl)
@[simp]theorem ZT{t:TypeId}{cs:List AV}{i:Nat}{v:AV}{rest:List (Nat×AV)}:oF P t cs ((i,v)::rest)=Ft P t cs rest (aR P t i) v.cR:=by
 simp only[oF,Ft];cases aR P t i with
 |none=>rfl
 |some q=>cases v.cR<;>rfl
@[simp]theorem ZU{t:TypeId}{cs zs:List AV}{rest:List (Nat×AV)}{off s:Nat}:Ft P t cs rest (some (off,s)) (some zs)=if zs.length=s/\off+s<=cs.length then oF P t (cs.take off++zs++cs.drop (off+s)) rest else none:=(rfl)
@[simp]theorem agz{v:Value}:AV.cR (.p (.sc v))=some [.p (.sc v)]:=(rfl)
@[simp]theorem aco:AV.cR (.p .nil)=some [.p .nil]:=(rfl)
@[simp]theorem agA{xs:List PC}:AV.cR (.p (.sl xs))=some [.p (.sl xs)]:=(rfl)
@[simp]theorem ZV{xs:List PC}:AV.cR (.p (.agg false xs))=some (xs.map .p):=(rfl)
@[simp]theorem acp{i o:Nat}:AV.cR (.obj i o)=some [.obj i o]:=(rfl)
@[simp]theorem acq{i:Nat}{xs:List PC}:AV.cR (.own i xs)=some [.own i xs]:=(rfl)
@[simp]theorem ZW{xs:List PC}:AV.cR (.full xs)=some [.full xs]:=(rfl)
@[simp]theorem ZX{id f n s:Nat}{m:Option Nat}:AV.cR (.view id f n s m)=some [.view id f n s m]:=(rfl)
@[simp]theorem acr{xs:List AV}:AV.cR (.agg false xs)=some xs:=(rfl)
def Lr(P:Program)(n:Nat)(k:AV->Prop)(ps:List (Nat×AV)):Option (TypeId×Nat×Nat)->Prop
 |some (_,sz,_)=>0<sz/\bt 0 ps=true/\ps.length=n/\n*sz<=16777216/\match dV (ps.map fun p=>p.2.nm)with
  |some ys=>ys.all (fun y=>y.width==sz&&cw y)=true/\k (.full ys)
  |none=>False
 |none=>False
def Qh(k:AV->Prop)(sz:Nat):Option (List PC)->Prop
 |some ys=>ys.all (fun y=>y.width==sz&&cw y)=true/\k (.full ys)
 |none=>False
@[congr]theorem ZY{n:Nat}{ps ps':List (Nat×AV)}{f g:Option (TypeId×Nat×Nat)}(h:ps=ps')(h2:f=g):Lr P n k ps f=Lr P n k ps' g:=by rw[h,h2]
@[congr]theorem Z0{sz:Nat}{f g:Option (List PC)}(h2:f=g):Qh k sz f=Qh k sz g:=by rw[h2]
@[simp]theorem alU{t:TypeId}{n:Nat}{ps:List (Nat×AV)}:zc P t n k ps=Lr P n k ps (cU P t):=by
 simp only[zc,Lr];cases cU P t<;>rfl
@[simp]theorem acs{n:Nat}{ps:List (Nat×AV)}{e:TypeId}{sz bT:Nat}:Lr P n k ps (some (e,sz,bT))=(0<sz/\bt 0 ps=true/\ps.length=n/\n*sz<=16777216/\Qh k sz (dV (ps.map fun p=>p.2.nm))):=by
 simp only[Lr,Qh]
@[simp]theorem acu{sz:Nat}{ys:List PC}:Qh k sz (some ys)=(ys.all (fun y=>y.width==sz&&cw y)=true/\k (.full ys)):=(rfl)
@[simp]theorem VT{α:Type}{i:Nat}:bt i ([]:List (Nat×α))=true:=(rfl)
@[simp]theorem Uj{α:Type}{i j:Nat}{x:α}{l:List (Nat×α)}:bt i ((j,x)::l)=(j==i&&bt (i+1) l):=(rfl)
@[simp]theorem agB{v:Value}:cw (.sc v)=true:=(rfl)
@[simp]theorem acv:cw .nil=true:=(rfl)
@[simp]theorem agC{v:List PC}:cw (.sl v)=true:=(rfl)
@[simp]theorem acw{b:Bool}{x:List PC}:cw (.agg b x)=!b:=(rfl)
def Qi(t:TypeId)(tb:Tb)(kt:AV->Tb->Prop):Option (List AV)->Prop
 |some zs=>kt (.obj tb.nx 0) (tb.aS ⟨t,zs.length,zs⟩)
 |none=>False
@[congr]theorem Z1{t:TypeId}{f g:Option (List AV)}(h:f=g):Qi t tb kt f=Qi t tb kt g:=by rw[h]
@[simp]theorem akU{t:TypeId}{x:AV}:GU P t tb kt x=Qi t tb kt x.cR:=by
 simp only[GU,Qi];cases x.cR<;>rfl
@[simp]theorem acy{t:TypeId}{zs:List AV}:Qi t tb kt (some zs)=kt (.obj tb.nx 0) (tb.aS ⟨t,zs.length,zs⟩):=(rfl)
@[simp]theorem VU{t:TypeId}{zs:List PC}:zy P tb kt (some zs) t=kt (.obj tb.nx 0) (tb.aS ⟨t,zs.length,zs.map .p⟩):=(rfl)
def Ls(kt:AV->Tb->Prop)(tb:Tb):Option AV->Prop
 |some y=>kt y tb
 |none=>False
@[congr]theorem Z2{f g:Option AV}(h2:f=g):Ls kt tb f=Ls kt tb g:=by rw[h2]
@[simp]theorem acz{y:AV}:Ls kt tb (some y)=kt y tb:=(rfl)
def ldG(kt:AV->Tb->Prop)(tb:Tb)(off:Nat):Option Ob->Option Bool->Option Nat->Prop
 |some ob,some ag,some s=>Ls kt tb (ku off s ag ob.xs)
 |_,_,_=>False
@[congr]theorem acA{off off':Nat}{f f':Option Ob}{g g':Option Bool}{h h':Option Nat}(e0:off=off')(e1:f=f')(e2:g=g')(e3:h=h'):ldG kt tb off f g h=ldG kt tb off' f' g' h':=by rw[e0,e1,e2,e3]
@[simp]theorem acB{t:TypeId}{id off:Nat}:loadT P t tb kt (.obj id off)=ldG kt tb off (lk id tb.bx) (bL P t) (aO P t):=by
 simp only[loadT,ldG];cases lk id tb.bx<;>cases bL P t<;>cases aO P t<;>simp only[Ls];rename_i a b c;cases ku off c b a.xs<;>rfl
@[simp]theorem agD{off s:Nat}{ob:Ob}{ag:Bool}:ldG kt tb off (some ob) (some ag) (some s)=Ls kt tb (ku off s ag ob.xs):=(rfl)
@[simp]theorem aiy{t:TypeId}{x:PC}:loadT P t tb kt (.p x)=vW P t (qK kt tb) (.p x):=(rfl)
@[simp]theorem acC{t:TypeId}{id off l:Nat}:Bq P cx l t tb kt (.obj id off)=(id=cx.lb l/\loadT P t tb kt (.obj id off)):=(rfl)
def pS(P:Program)(t:TypeId)(tb:Tb)(kt:AV->Tb->Prop)(id off:Nat):Option (List AV)->Option Ob->Prop
 |some zs,some ob=>aO P t=some zs.length/\off+zs.length<=ob.xs.length/\kt .any (tb.aP id {ob with xs:=ob.xs.take off++zs++ob.xs.drop (off+zs.length)})
 |_,_=>False
@[congr]theorem acD{t:TypeId}{id off off':Nat}{f f':Option (List AV)}{g g':Option Ob}(e0:off=off')(e1:f=f')(e2:g=g'):pS P t tb kt id off f g=pS P t tb kt id off' f' g':=by rw[e0,e1,e2]
@[simp]theorem Z3{t:TypeId}{id off:Nat}{y:AV}:storeT P t tb kt (.obj id off) y=pS P t tb kt id off y.cR (lk id tb.bx):=by
 simp only[storeT,pS];cases y.cR with
 |none=>rfl
 |some zs=>simp only;cases lk id tb.bx<;>rfl
@[simp]theorem agE{t:TypeId}{id off:Nat}{zs:List AV}{ob:Ob}:pS P t tb kt id off (some zs) (some ob)=(aO P t=some zs.length/\off+zs.length<=ob.xs.length/\kt .any (tb.aP id {ob with xs:=ob.xs.take off++zs++ob.xs.drop (off+zs.length)})):=(rfl)
section
variable{id id' f n s f' n' s':Nat}{m m':Option Nat}{y:AV}{ob jh:Ob}{es:Option Nat}
@[simp]theorem agF:cpT tb kt es (.view id f n s m) y=(es=some s/\cpO tb kt id f n s y (lk id tb.bx)):=(rfl)
@[congr]theorem acE{y y':AV}{a b:Option Ob}(h:y=y')(h2:a=b):cpO tb kt id f n s y a=cpO tb kt id f n s y' b:=by rw[h,h2]
@[simp]theorem agG:cpO tb kt id f n s y (some ob)=(ob.sz=s/\Zy (tb.aP id {ob with xs:=bB (f*s) ob.xs}) kt id f n s {ob with xs:=bB (f*s) ob.xs} y):=(rfl)
@[congr]theorem acF{tb aM:Tb}{o o':Ob}{y y':AV}(h0:tb=aM)(h:o=o')(h2:y=y'):Zy tb kt id f n s o y=Zy aM kt id f n s o' y':=by rw[h0,h,h2]
@[simp]theorem agH:Zy tb kt id f n s ob (.view id' f' n' s' m')=(s'=s/\cpG tb kt id f n s ob n' f' (lk id' tb.bx)):=(rfl)
@[congr]theorem acG{a b:Option Ob}(h:a=b):cpG tb kt id f n s ob n' f' a=cpG tb kt id f n s ob n' f' b:=by rw[h]
@[simp]theorem agI:cpG tb kt id f n s ob n' f' (some jh)=((f'+Nat.min n' n)*s<=jh.xs.length/\kt (.p (.int (Nat.min n' n:Nat))) (tb.aP id {ob with xs:=ob.xs.take (f*s)++(jh.xs.drop (f'*s)).take (Nat.min n' n*s)++ob.xs.drop (f*s+Nat.min n' n*s)})):=(rfl)
@[simp]theorem akV{ys:List PC}:Zy tb kt id f n s ob (.p (.sl ys))=((∀y∈ys,y.width=s)/\(∀y∈ys,cw y=true)/\kt (.p (.int (Nat.min ys.length n:Nat))) (tb.aP id {ob with xs:=ob.xs.take (f*s)++(ys.take (Nat.min ys.length n)).flatMap aU++ob.xs.drop (f*s+Nat.min ys.length n*s)})):=(rfl)
def clG(tb:Tb)(kt:AV->Tb->Prop)(id f n s:Nat)(z:List PC):Option Ob->Prop
 |some ob=>ob.sz=s/\f*s<=ob.xs.length/\kt .any (tb.aP id {ob with xs:=ob.xs.take (f*s)++(fW n z).map .p++ob.xs.drop (f*s+n*s)})
 |none=>False
@[congr]theorem acH{z:List PC}{a b:Option Ob}(h:a=b):clG tb kt id f n s z a=clG tb kt id f n s z b:=by rw[h]
@[simp]theorem agJ{e:TypeId}{bT:Nat}{z:List PC}(hz:bG P e=some z):YH P tb kt (.view id f n s' m) (some (e,s,bT))=(s'=s/\0<s/\clG tb kt id f n s z (lk id tb.bx)):=by
 simp only[YH,hz,clG];cases lk id tb.bx<;>rfl
@[simp]theorem agK{z:List PC}:clG tb kt id f n s z (some ob)=(ob.sz=s/\f*s<=ob.xs.length/\kt .any (tb.aP id {ob with xs:=ob.xs.take (f*s)++(fW n z).map .p++ob.xs.drop (f*s+n*s)})):=(rfl)
def mkG(tb:Tb)(kt:AV->Tb->Prop)(e:TypeId)(s bT:Nat)(n c:Int):Option (List PC)->Prop
 |some z=>0<s/\0<=n/\n<=c/\bT*c.toNat<=281474976710656/\c.toNat<=maxLen/\kt (.view tb.nx 0 n.toNat s (some c.toNat)) (tb.aS ⟨e,s,(fW c.toNat z).map .p⟩)
 |none=>False
@[congr]theorem acI{e:TypeId}{bT:Nat}{n c:Int}{a b:Option (List PC)}(h:a=b):mkG tb kt e s bT n c a=mkG tb kt e s bT n c b:=by rw[h]
@[simp]theorem agL{e:TypeId}{bT:Nat}{k1 k2:IntKind}{n c:Int}:mkT P tb kt (.p (.sc (.int k1 n))) (.p (.sc (.int k2 c))) (some (e,s,bT))=mkG tb kt e s bT n c (bG P e):=by
 simp only[mkT,mkG];cases bG P e<;>rfl
@[simp]theorem agM{e:TypeId}{bT:Nat}{n c:Int}{z:List PC}:mkG tb kt e s bT n c (some z)=(0<s/\0<=n/\n<=c/\bT*c.toNat<=281474976710656/\c.toNat<=maxLen/\kt (.view tb.nx 0 n.toNat s (some c.toNat)) (tb.aS ⟨e,s,(fW c.toNat z).map .p⟩)):=(rfl)
end
@[simp]theorem acJ{u e:TypeId}{sz bT:Nat}{x y:AV}:Aq P u tb kt x y (some (e,sz,bT))=Hf P u e sz bT tb kt y (E_ tb.rw e sz x):=(rfl)
@[congr]theorem Z4{u e:TypeId}{sz bT:Nat}{y y':AV}{z z':Option (Option Nat×List PC)}(h2:y=y')(h3:z=z'):Hf P u e sz bT tb kt y z=Hf P u e sz bT tb kt y' z':=by rw[h2,h3]
@[simp]theorem agN{rw:List (Nat×TypeId×Nat)}{e:TypeId}{sz id:Nat}{xs:List PC}:E_ rw e sz (.own id xs)=if lk id rw=some (e,sz)then some (some id,xs)else none:=(rfl)
@[simp]theorem agO{rw:List (Nat×TypeId×Nat)}{e:TypeId}{sz:Nat}:E_ rw e sz (.p .nil)=some (none,[]):=(rfl)
section
variable{u e:TypeId}{sz bT:Nat}{dX:Option Nat}{xs:List PC}
@[simp]theorem aiz{ys:List PC}:Hf P u e sz bT tb kt (.p (.sl ys)) (some (dX,xs))=P2 P u e sz bT dX xs tb kt ys:=(rfl)
@[simp]theorem akW{ys:List PC}(h:(aH P u).isSome=true):P2 P u e (sz+1) bT dX xs tb kt ys=((∀x∈xs,x.width=sz+1)/\(∀y∈ys,y.width=sz+1)/\(xs.length+ys.length)*bT<=140737488355328/\xs.length+ys.length<=9223372036854775807/\kt (.own tb.nx (xs++ys)) (pL tb dX e (sz+1))):=by simp[P2,h]
end
@[simp]theorem Uk{l:List UInt8}:(af l).length=l.length:=by simp[af]
variable{R:List AV->Tb->Prop}
@[simp]theorem akX{fn:Func}:tP P fn R .normal st=vu P R st.tb (kO P st fn.results.toList):=(rfl)
@[simp]theorem akY{fn:Func}:tP P fn R .ret st=vu P R st.tb (kO P st fn.results.toList):=(rfl)
@[congr]theorem Z5{tb:Tb}{f g:Option (List AV)}(h:f=g):vu P R tb f=vu P R tb g:=by rw[h]
@[simp]theorem acK{tb:Tb}{zs:List AV}:vu P R tb (some zs)=R zs tb:=(rfl)
def Fu:Option AV->Option (List AV)->Option (List AV)
 |some x,some l=>some (x::l)
 |_,_=>none
@[simp]theorem aiA:kO P st []=some []:=(rfl)
@[simp]theorem aiB{t:Tmp}{l:List ResultVar}:kO P st (.tmp t::l)=Fu (some (st.sl t)) (kO P st l):=by
 simp only[kO,Fu];cases kO P st l<;>rfl
@[simp]theorem agP{t:Tmp}{ty:TypeId}{l:List ResultVar}:kO P st (.cell t ty::l)=Fu (kO.Br P st (st.sl t) ty) (kO P st l):=by
 simp only[kO,Fu];cases kO.Br P st (st.sl t) ty<;>cases kO P st l<;>rfl
@[simp]theorem Z6{x:AV}{l:List AV}:Fu (some x) (some l)=some (x::l):=(rfl)
def Qj(off:Nat):Option Ob->Option Bool->Option Nat->Option AV
 |some ob,some ag,some s=>ku off s ag ob.xs
 |_,_,_=>none
@[simp]theorem acL{id off:Nat}{ty:TypeId}:kO.Br P st (.obj id off) ty=Qj off (lk id st.tb.bx) (bL P ty) (aO P ty):=by
 simp only[kO.Br,Qj];cases lk id st.tb.bx<;>cases bL P ty<;>cases aO P ty<;>rfl
@[simp]theorem Z7{off s:Nat}{ob:Ob}{ag:Bool}:Qj off (some ob) (some ag) (some s)=ku off s ag ob.xs:=(rfl)
@[simp]theorem agQ{ys:List PC}{zs:List AV}{tb:Tb}:Em ys zs tb=toAll zs (ys.map .p):=(rfl)
@[simp]theorem toAll_nil:toAll [] []=True:=by simp only[toAll]
@[simp]theorem toAll_cons{x y:AV}{l m:List AV}:toAll (x::l) (y::m)=(x.to y/\toAll l m):=by simp only[toAll]
@[simp]theorem aiC{t t':Bool}{xs ys:List AV}:(AV.agg t xs).to (.agg t' ys)=(t=t'/\toAll xs ys):=by simp only[AV.to]
theorem Hl{x y:AV}(h:∀t ys,y≠ .agg t ys):x.to y=x.Ua y:=by
 unfold AV.to;split
 ·exact absurd rfl (h _ _)
 ·rfl
theorem akZ{x:AV}{y:PC}:x.to (.p y)=∃p,x.pc=some p/\(y=p\/y=p.wk):=by
 rw[Hl (by simp)];apply propext;constructor
 ·rintro(rfl|⟨p,h,h1|h1⟩|⟨rfl,h⟩|⟨_,_,_,_,_,_,h⟩)
  ·exact⟨y,rfl,.inl rfl⟩
  ·injection h1 with h1;exact⟨p,h,.inl h1⟩
  ·injection h1 with h1;exact⟨p,h,.inr h1⟩
  ·cases h
  ·cases h
 ·rintro⟨p,h,rfl|rfl⟩
  ·exact .inr (.inl ⟨_,h,.inl rfl⟩)
  ·exact .inr (.inl ⟨_,h,.inr rfl⟩)
def toG(y:PC):Option PC->Prop
 |some p=>y=p\/y=p.wk
 |none=>False
@[simp]theorem alV{x:AV}{y:PC}:x.to (.p y)=toG y x.pc:=by
 rw[akZ];cases x.pc<;>simp[toG]
@[simp]theorem toG_sc{y:PC}{v:Value}:toG y (some (.sc v))=(y= .sc v):=by simp[toG]
@[simp]theorem toG_sl{y:PC}{v:List PC}:toG y (some (.sl v))=(y= .sl v):=by simp[toG]
@[simp]theorem toG_nil{y:PC}:toG y (some .nil)=(y= .nil\/y= .sl []):=by simp[toG]
@[simp]theorem toG_ref{y x:PC}:toG y (some (.ref x))=(y= .ref x):=by simp[toG]
@[simp]theorem toG_fn{y:PC}{f:Fn}{x:List PC}:toG y (some (.fn f x))=(y= .fn f x):=by simp[toG]
@[simp]theorem toG_agg{y:PC}{b:Bool}{x:List PC}:toG y (some (.agg b x))=(y= .agg b x\/y= .agg b (x.map PC.Qs)):=by simp[toG]
@[simp]theorem ak0{x:AV}{i:Nat}{ys:List PC}:x.to (.own i ys)=(x= .own i ys):=by
 rw[Hl (by simp)];simp[AV.Ua,eq_comm]
@[simp]theorem ak1{x:AV}{i:Fn}{ys:List AV}:x.to (.lJ i ys)=(x= .lJ i ys):=by
 rw[Hl (by simp)];simp[AV.Ua,eq_comm]
@[simp]theorem ak2{x:AV}{i:TypeId}{y:AV}:x.to (.mW i y)=(x= .mW i y):=by
 rw[Hl (by simp)];simp[AV.Ua,eq_comm]
@[simp]theorem ak3{x:AV}{i o:Nat}:x.to (.obj i o)=(x= .obj i o):=by
 rw[Hl (by simp)];simp[AV.Ua,eq_comm]
@[simp]theorem agR{x:AV}{i o n s:Nat}:x.to (.view i o n s none)=(∃m,x= .view i o n s m):=by
 rw[Hl (by simp)];simp only[AV.Ua,reduceCtorEq,false_or,or_false,and_false,exists_false];apply propext;constructor
 ·rintro(h|⟨id,o',n',s',m,h1,h2⟩)
  ·exact⟨none,h.symm⟩
  ·injection h2 with e1 e2 e3 e4;subst e1;subst e2;subst e3;subst e4;exact⟨m,h1⟩
 ·rintro⟨m,rfl⟩;exact .inr ⟨_,_,_,_,_,rfl,rfl⟩
@[simp]theorem aiD{x:AV}{ys:List PC}:x.to (.full ys)=(x= .full ys\/x= .p .nil/\ys=[]):=by
 rw[Hl (by simp)];simp[AV.Ua,eq_comm]
theorem bf{n:Int}(h1:-9223372036854775808<=n)(h2:n<=9223372036854775807):IntKind.i64.wrap n=n:=IntWalk.i64_in n ⟨h1,h2⟩
end
theorem aD{n:Int}(h0:-9223372036854775808<=n:=by omega)(h1:n<=9223372036854775807:=by omega):IntKind.i64.wrap n=n:=bf h0 h1
theorem jq(k:Nat)(h:(k:Int)+1<=9223372036854775807:=by omega):IntKind.i64.wrap ((k:Int)+1)=((k+1:Nat):Int):=by rw[bf (by omega) h];rfl
end Go.Av
