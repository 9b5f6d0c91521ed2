/- TiersAgain, part 18: what functions compute, and its plain law; no condition. -/
import Derived.Test.YtgkdpbambfgahaaGreatDoorWaq
set_option linter.all false
set_option maxRecDepth 100000
set_option maxHeartbeats 64000000
namespace Go.aL
open Go.Av
open Go.cD (Nd rB jU kE oN ym Key Aw FJ gj gq Step)
def Ll{t:Nat}{c:Cs}(h:lN t c)(n:Nd):lB (bM.sv c n).2.1:=by
 show lB (c.sv n).2.1;unfold Cs.sv;split
 .split
  .obtain⟨m1,m2,m3,m4,m5⟩:=h.s.sl.take 1;have:=h.s.sl.n;exact⟨by simp only;omega,by simp only;omega⟩
  .simp[lB]
 .simp[lB]
def Gl{t:Nat}{c:Cs}(h:lN t c){n:Nd}(hn:jY n):(bM.put c n).2.1.length<=2/\((bM.put c n).2.2.2=0->1<=(bM.put c n).2.1.length)/\(∀p∈(bM.put c n).2.1,lB p)/\(bM.put c n).2.2.1.length<=1000000:=by
 unfold Go.cD.dG.put;have h1:=Ll h n;have h2:=Ll h (kE n);have h3:=Ll (h.Zf (kE n)) (oN n);split
 .exact⟨H,H,U h1,H⟩
 .split
  .refine⟨H,H,by simp[h2,h3],?_⟩;simp only[ym];split
   .unfold Go.cD.acs;rcases iD (n.ks.length/2) n.ks.length with h4|h4
    .rw[u6,n_ h4];exact hn.keys _ (bB h4)
    .rw[u6,sN h4];simp
   .simp
  .rename_i h4;exact⟨H,λh=>absurd h h4,H,H⟩
structure UpB(t b:Nat)(u:Aw Cs):Prop where
 s:lN t u.s
 old:u.old.length<=b
 pg:u.pg.length<=2/\(u.e=0->1<=u.pg.length)
 pgb:∀p∈u.pg,lB p
 key:u.key.length<=1000000
def Gm{x:Step}{u:Aw Cs}{t b:Nat}(hx:Ao x)(hu:UpB t b u):jY (FJ x u.pg u.key):=by
 have h:=gD hx.rt;have h1:=hx.rt.len;have h2:=hx.rt.form;unfold FJ;split
 .exact wI h hu.key O (by rw[h2];split<;>omega) (by have:=hu.pg;omega)
 .exact⟨h.ks,by simp[gq];exact h.vs,h.keys⟩
def Zg{x:Step}{u:Aw Cs}{t b:Nat}(hx:Ao x)(hu:UpB t b u):UpB (t+16) (b+1) (bM.qD x u):=by
 unfold Go.cD.dG.qD;split
 .have hn:=Gm hx hu;obtain⟨p1,p2,p3,p4⟩:=Gl hu.s hn;exact⟨hu.s.put _,by simp;have:=hu.old;omega,⟨p1,p2⟩,p3,p4⟩
 .exact⟨hu.s.up O,by have:=hu.old;omega,hu.pg,hu.pgb,hu.key⟩
theorem Es{t b:Nat}{u:Aw Cs}(hu:UpB t b u):∀(l:List Step),(∀x∈l,Ao x)->UpB (t+16*l.length) (b+l.length) (l.foldr bM.qD u)
 |[],_=>by simpa using hu
 |x::l,h=>by
  have:=Zg (h x H) (Es hu l (λy hy=>h y (by simp[hy])));simpa[yu,ow]using this
theorem mM{u:Aw Cs}(h:u.e≠0):∀(l:List Step),l.foldr bM.qD u=u
 |[]=>rfl
 |x::l=>by simp only[List.foldr_cons,mM h l];unfold Go.cD.dG.qD;rw[ah h]
end Go.aL
namespace Go.Av
open Go.Proofs Go.Proofs.Tryz Go.aL
open Go.cD (Nd rB jU Right jv Step eI Key kE oN ym Aw FJ gj gq)
def Tn(t b:Nat)(root:Int)(u0:Aw Cs)(h0:UpB t b u0)(he:u0.e=0)(l:List Step)(hl:∀x∈l,Ao x)(aj4:l.length<=100)(hb:b<=100)(ht:t<=25000):bN 243 [.obj 21 0,.p (.sl (l.map sI)),.p (.sl (u0.pg.map PC.int)),.p (.str u0.key)] ⟨iY.B 0 8 u0.s++[(20,eJ root),(21,jJ 22 u0.old)],nJ 8++[(22,3,1)],23⟩ (.p (.int (bM.gZ root 0 false (l.foldr bM.qD u0)).e)) ⟨iY.B 0 23 (bM.gZ root 0 false (l.foldr bM.qD u0)).s++[(20,eJ (bM.gZ root 0 false (l.foldr bM.qD u0)).root),(21,jJ 35 (l.foldr bM.qD u0).old)],nJ 23++[(35,3,1)],36⟩:=by
 obtain⟨Z,hZ⟩:=lT (bM.gZ root 0 false (l.foldr bM.qD u0));obtain⟨ol,Lm⟩:=lT ((l.foldr bM.qD u0).old);rw[hZ,Lm];refine aq [_] [] [(5,[(4,.r 1),(6,.r 2),(8,.f [1,2]),(11,.s 1 [2])]),(9,[(0,.r 3),(2,.r 2),(7,.w [])])] [(1,21),(2,36),(3,38)] func243 rfl ?_;have wl:IntKind.i64.wrap ((l.length:Int)-1)=(l.length:Int)-1:=aG;simp[eJ,jJ,wl];refine aS (λy:Nat×Aw Cs=>y.1<=l.length/\y.2=(l.drop y.1).foldr bM.qD u0/\y.2.e=0) (λy=>[(0,.obj 21 0),(1,.p (.sl (l.map sI))),(2,.p (.sl (y.2.pg.map PC.int))),(3,.p (.str y.2.key)),(9,.p (.int ((y.1:Int)-1)))]) (λy=>⟨iY.B 0 23 y.2.s++[(20,eJ root),(21,jJ 35 y.2.old)],nJ 23++[(35,3,1)],36⟩) (λy=>y.1) (l.length,u0) ⟨H,H,he⟩ _ (AS.le_refl _ _) (aE (dD 23 8 [(35,22)]) H) ?_;rintro⟨m,u⟩ ⟨g1,g2,g3⟩;simp only at g1 g2 g3;have hu:UpB (t+16*(l.length-m)) (b+(l.length-m)) u:=by
  rw[g2];have:=Es h0 (l.drop m) (λx hx=>hl x (fq hx));simpa using this
 cases m with
 |zero=>
  have e:l.foldr bM.qD u0=u:=by rw[g2];rfl
  rw[e]at hZ Lm;subst Lm;have xS:=hu.old;have hpl:=hu.pg.1;have MZ:0<u.pg.length:=hu.pg.2 g3;unfold Go.cD.dG.gZ at hZ;rw[ai g3]at hZ;by_cases c2:u.pg.length=2
  .rw[ai c2]at hZ;have eY:((u.pg.length:Int)==2)=true:=by simp;omega
   have sx:jY ⟨false,[u.key],u.pg⟩:=⟨H,by simp;omega,U hu.key⟩;have hs:=qb _ u.s hu.s O ⟨false,[u.key],u.pg⟩ sx;have hS1:=hu.s.Zf ⟨false,[u.key],u.pg⟩;generalize hR:bM.sv u.s ⟨false,[u.key],u.pg⟩=R at hs hZ hS1;obtain⟨S1,p1,e1⟩:=R;simp only at hs hZ hS1;simp[eY,eJ,jJ,Et];refine k9 (rN 23 []) hs H H H H ?_;by_cases c3:e1=0
   .subst c3;rw[ai rfl]at hZ;have hd:=w_ _ S1 hS1 root u.old O O p1;simp;refine jf (rN 36 [20,21,35]) hd ?_;rw[<-hZ];simp[-az,results243];exact⟨dD 23 48 [],H⟩
   .rw[ah c3]at hZ;have mg:(e1 !=0)=true:=U c3;rw[<-hZ];simp[-az,mg,results243];exact⟨dD 23 36 [],H⟩
  .rw[ah c2]at hZ;have eY:((u.pg.length:Int)==2)=false:=by simp;omega
   have hgd:u.pg.getD 0 0=u.pg[0]:=by rw[u6,n_ MZ];rfl
   rw[hgd]at hZ;have hd:=w_ _ u.s hu.s root u.old O O u.pg[0];simp[eY,MZ,eJ,jJ];refine jf (rN 23 [20,21,35]) hd ?_;rw[<-hZ];simp[-az,results243];exact⟨dD 23 36 [],H⟩
 |succ m=>
 have hm:m<l.length:=O;obtain⟨x,Uj⟩:=mH (l[m]);have hx:Ao x:=by rw[Uj];exact hl _ (bB hm)
 have qp:(l.drop m).foldr bM.qD u0=bM.qD x u:=by rw[eK hm,List.foldr_cons,<-g2,Uj]
 have hall:l.foldr bM.qD u0=(l.take m).foldr bM.qD (bM.qD x u):=by
  conv=>lhs;rw[<-eO m l]
  rw[List.foldr_append,qp]
 have MZ:0<u.pg.length:=hu.pg.2 g3;have hpl:=hu.pg.1;have xS:=hu.old;have hx4:=hx.rt.len;have hxm:l[m]=x:=Uj.symm;have wm2:IntKind.i64.wrap ((m:Int)-1)=(m:Int)-1:=aG;have hcv:x.c<x.n.vs.length:=by have h1:=hx.rt.form;have h2:=hx.c;rw[hx.Uk]at h1;simp at h1;omega
 by_cases c2:u.pg.length=2
 .have eY:((u.pg.length:Int)==2)=true:=by simp;omega
  have HS:FJ x u.pg u.key=gj x.n x.c u.key u.pg:=by unfold FJ;rw[ai c2]
  have sx:=Gm hx hu;rw[HS]at sx;simp[hm,hxm,eY,eJ,jJ];refine⟨O,O,?_⟩;refine cm (Tl x.n x.c u.key u.pg (gD hx.rt) O (sJ hx.rt) hx.c) ?_;simp;have hF:bM.qD x u=⟨(bM.put u.s (gj x.n x.c u.key u.pg)).1,u.old++[x.p],(bM.put u.s (gj x.n x.c u.key u.pg)).2.1,(bM.put u.s (gj x.n x.c u.key u.pg)).2.2.1,(bM.put u.s (gj x.n x.c u.key u.pg)).2.2.2⟩:=by unfold Go.cD.dG.qD;rw[ai g3,HS]
  rw[hF]at qp hall;have nu:=yp _ u.s hu.s O root (u.old++[x.p]) (gj x.n x.c u.key u.pg) sx;generalize hR:bM.put u.s (gj x.n x.c u.key u.pg)=R at nu qp hall;obtain⟨S',DK,key',e'⟩:=R;simp only at nu qp hall;refine jf (rN 23 [20,21,37]) nu ?_;by_cases c3:e'=0
  .subst c3;simp;exact⟨m,_,⟨O,qp.symm,rfl⟩,O,aE (dD 23 39 [(35,37)]) (by simp[wm2])⟩
  .have mg:(e' !=0)=true:=U c3;have hres:l.foldr bM.qD u0=⟨S',u.old++[x.p],DK,key',e'⟩:=by rw[hall,mM c3]
   rw[hres]at hZ Lm;unfold Go.cD.dG.gZ at hZ;rw[ah c3]at hZ;rw[<-hZ,<-Lm];simp[-az,mg,results243];exact⟨dD 23 39 [(35,37)],H⟩
 .have eY:((u.pg.length:Int)==2)=false:=by simp;omega
  have HS:FJ x u.pg u.key=gq x.n x.c u.pg[0]:=by unfold FJ;rw[ah c2,u6,n_ MZ];rfl
  have sx:=Gm hx hu;rw[HS]at sx;simp[hm,hxm,eY,MZ,eJ,jJ];refine⟨O,O,?_⟩;refine aZ (Ln x.n x.c u.pg[0] (gD hx.rt) hcv) ?_;simp;have hF:bM.qD x u=⟨(bM.put u.s (gq x.n x.c u.pg[0])).1,u.old++[x.p],(bM.put u.s (gq x.n x.c u.pg[0])).2.1,(bM.put u.s (gq x.n x.c u.pg[0])).2.2.1,(bM.put u.s (gq x.n x.c u.pg[0])).2.2.2⟩:=by unfold Go.cD.dG.qD;rw[ai g3,HS]
  rw[hF]at qp hall;have nu:=yp _ u.s hu.s O root (u.old++[x.p]) (gq x.n x.c u.pg[0]) sx;generalize hR:bM.put u.s (gq x.n x.c u.pg[0])=R at nu qp hall;obtain⟨S',DK,key',e'⟩:=R;simp only at nu qp hall;refine jf (rN 23 [20,21,37]) nu ?_;by_cases c3:e'=0
  .subst c3;simp;exact⟨m,_,⟨O,qp.symm,rfl⟩,O,aE (dD 23 39 [(35,37)]) (by simp[wm2])⟩
  .have mg:(e' !=0)=true:=U c3;have hres:l.foldr bM.qD u0=⟨S',u.old++[x.p],DK,key',e'⟩:=by rw[hall,mM c3]
   rw[hres]at hZ Lm;unfold Go.cD.dG.gZ at hZ;rw[ah c3]at hZ;rw[<-hZ,<-Lm];simp[-az,mg,results243];exact⟨dD 23 39 [(35,37)],H⟩
end Go.Av
namespace Go.aL
open Go.Av
open Go.cD (Nd rB jU kE oN ym Key Aw FJ gj gq Step Right eI tU k7)
def StW(key:Key)(x:Step):Prop:=Right x.n/\x.c=eI x.n key/\lB x.p
theorem Dm(key:Key):∀(f:Nat) (c:Cs) (dP:Int) (out:List Step),(∀x∈out,StW key x/\x.n.lf=false)->lB dP->∀l x,(bM.way key f c dP out).2.1=l++[x]->(∀y∈l,y.n.lf=false)/\∀y∈l++[x],StW key y
 |0,c,dP,out,h,_,l,x,e=>by
  unfold Go.cD.dG.way at e;split at e
  .simp only at e;rw[e]at h;exact⟨λy hy=>(h y (by simp[hy])).2,λy hy=>(h y hy).1⟩
  .simp at e
 |f+1,c,dP,out,h,hp,l,x,e=>by
  unfold Go.cD.dG.way at e;split at e
  .simp only at e;rw[e]at h;exact⟨λy hy=>(h y (by simp[hy])).2,λy hy=>(h y hy).1⟩
  .split at e
   .rename_i h2;have h3:Right (bM.tl c dP).2.1:=by
     rcases Go.Av.xj c dP with h3|h3
     .exact h3.2
     .exact absurd h2 h3.2
    split at e
    .simp only at e;have e1:=List.append_inj_left' e H;have e2:=List.append_inj_right' e H;subst e1;injection e2 with e2;refine⟨λy hy=>(h y hy).2,λy hy=>?_⟩;rcases lD.1 hy with hy|hy
     .exact(h y hy).1
     .rw[gK]at hy;subst hy;rw[<-e2];exact⟨h3,rfl,hp⟩
    .rename_i h4;have h4':(bM.tl c dP).2.1.lf=false:=Bool.eq_false_iff.2 h4;refine Dm key f _ _ _ (λy hy=>?_) ?_ l x e
     .rcases lD.1 hy with hy|hy
      .exact h y hy
      .rw[gK]at hy;subst hy;exact⟨⟨h3,rfl,hp⟩,h4'⟩
     .rcases iD (eI (bM.tl c dP).2.1 key) (bM.tl c dP).2.1.vs.length with h5|h5
      .have:=h3.vals _ (bB h5);rw[u6,n_ h5];exact⟨by have:=this.1;simp only[rf];omega,by have:=this.2;simp only[rf];omega⟩
      .rw[u6,sN h5];exact⟨H,H⟩
   .simp at e
theorem Jt(key:Key):∀(f:Nat) (c:Cs) (dP:Int) (out:List Step),(bM.way key f c dP out).2.1.length<=out.length+f
 |0,c,dP,out=>by unfold Go.cD.dG.way;split<;>simp
 |f+1,c,dP,out=>by
  unfold Go.cD.dG.way;split
  .simp only;omega
  .split
   .split
    .simp only[mo,cF,fQ];omega
    .have:=Jt key f (bM.tl c dP).1 ((bM.tl c dP).2.1.vs.getD (eI (bM.tl c dP).2.1 key) 0) (out++[⟨(bM.tl c dP).2.1,dP,eI (bM.tl c dP).2.1 key⟩]);simp only[mo,cF,fQ]at this;omega
   .simp
def MH{c:Cs}{key:Key}{root:Int}(hr:lB root){l:List Step}{x:Step}(e:(bM.way key 40 c root []).2.1=l++[x]):(∀y∈l,Ao y)/\Right x.n/\lB x.p/\l.length<=40:=by
 obtain⟨h1,h2⟩:=Dm key 40 c root [] H hr l x e;have h4:=Jt key 40 c root [];rw[e]at h4;refine⟨λy hy=>?_,(h2 x H).1,(h2 x H).2.2,by simp at h4;omega⟩;obtain⟨a,b,d⟩:=h2 y (by simp[hy]);exact⟨a,h1 y hy,by rw[b];exact tU _ _,d⟩
def iJ(root was:Int)(had:Bool)(u:Aw Cs):(bM.gZ root was had u).s=(bM.gZ root 0 false u).s/\(bM.gZ root was had u).root=(bM.gZ root 0 false u).root/\(bM.gZ root was had u).e=(bM.gZ root 0 false u).e/\(bM.gZ root was had u).was=(if(bM.gZ root 0 false u).e=0 then was else 0)/\(bM.gZ root was had u).had=(if(bM.gZ root 0 false u).e=0 then had else false):=by
 unfold Go.cD.dG.gZ;by_cases c1:u.e=0
 .simp only[ai c1];by_cases c2:u.pg.length=2
  .simp only[ai c2];by_cases c3:(bM.sv u.s ⟨false,[u.key],u.pg⟩).2.2=0
   .simp[c3]
   .simp[c3]
  .simp[c2]
 .simp[c1]
def BO{t:Nat}{c:Cs}(hS:lN t c){n:Nd}(old:List Int){key:Key}{v:Int}(hn:jY (k7 n key v))(ho:old.length<=1):UpB (t+16) 1 (bM.lS c n old key v):=by
 have h:=Gl hS hn;exact⟨hS.put _,by simp only[Go.cD.dG.lS];omega,⟨h.1,h.2.1⟩,h.2.2.1,h.2.2.2⟩
end Go.aL
namespace Go.Av
open Go.Proofs Go.Proofs.Tryz Go.aL
open Go.cD (Nd rB jU Right jv Step eI Key kE oN ym Aw FJ gj gq gV MG bh FK b_ rY yo k7 rV BM uC wG BN)
def FM{n:Nd}{i:Nat}(h:Right n)(hi:i<n.ks.length):MG (gV n i)=true/\jY (gV n i)/\(gV n i).ks.length+1=n.ks.length:=by
 have h1:=h.form;have h2:=gD h;have hb:bh n=if n.lf then 0 else 1:=rfl
 refine⟨?_,⟨by have:=h2.ks;simp[gV];omega,by have:=h2.vs;simp[gV];omega,λk hk=>h2.keys k (FK hk)⟩,by simp[gV];omega⟩;unfold MG;simp only[gV,mo,lV,yz,h1,hb,ri];split<;>omega
def WB{P:Program}{f:FuncId}{xs:List AV}{r:AV}{tb a_:Tb}(id j:Nat)(el sz:Nat)(ob:Ob)(hl:lk id tb.bx=some ob)(hj:ob.xs[j]?=some (.p .nil))(hk:dm P f xs ((tb.cC el sz).aY id {ob with xs:=ob.xs.set j (.own tb.nx [])}) r a_):dm P f xs tb r a_:=by
 refine⟨hk.1,λg w vs F h1 hvs=>?_⟩;obtain⟨b,c,f1,fr,f0⟩:=h1.boxes id ob hl;have CF:ob.xs≠[]:=λhz=>by rw[hz]at hj;simp at hj
 have iQ:0<c:=qZ λhz=>CF (f0 hz);obtain⟨cur,f2,f3,⟨tt,fz,f4,fo⟩,f5,f6,f7,f8,f9⟩:=fr iQ;obtain⟨u,hu,hr⟩:=f8.get hj;have hrp:=bO hr;cases hrp;have hle:=h1.DF (.slice none 0 0);have jS:=h1.yb el sz none 0;have hl':lk id (tb.cC el sz).bx=some ob:=hl;have xA:∀{vs:List Value} {ys:List AV} (j:Nat) (v:Value),vs[j]?=some v->aV (g.ez tb.nx (.slice none 0 0)) vs ys->bJ (g.ez tb.nx (.slice none 0 0)) v (.own tb.nx [])->aV (g.ez tb.nx (.slice none 0 0)) vs (ys.set j (.own tb.nx [])):=by
  intro vs ys
  induction ys generalizing vs with
  |nil=>intro j v _ hs _;simpa using hs
  |cons y ys ih=>
   intro j v hv hs hn;cases hs with
   |cons h hs=>
    cases j with
    |zero=>simp at hv;subst hv;exact .cons hn hs
    |succ j=>simp at hv;exact .cons h (ih j v hv hs hn)
 have key:=jS.aY (o':={ob with xs:=ob.xs.set j (.own tb.nx [])}) (cur':=cur) hl' (show(g.ez tb.nx (.slice none 0 0)).ob id=some (b,c)from f1) iQ f4 rfl rfl rfl (U f7) (by
  simp only[vh];exact xA j _ hu (f8.mono hle) (.own (by simp[G.ez]) .dX)) (U f9)
 have hw:w.setRow b cur=w:=setRow_self f4;rw[hw]at key;refine(hk.2 _ w vs F key (hvs.mono hle)).mono ?_;rintro e w' ⟨v,g',rfl,h2,h3,h4⟩;exact⟨v,g',rfl,hle.trans h2,h3,h4⟩
@[reducible]def alO:Ob:=⟨339,2,[.obj 20 0,.p .nil]⟩
def YG(t:Nat)(c:Cs)(h:lN t c)(ht:t+8<=30000)(root:Int)(n:Nd)(hn:jY n):bN 241 [.obj 21 0,.p (uS n)] ⟨iY.B 0 8 c++[(20,eJ root),(21,alO)],nJ 8,22⟩ (.agg true [.p (.sl ((bM.put c n).2.1.map PC.int)),.p (.str (bM.put c n).2.2.1),.p (.int (bM.put c n).2.2.2)]) ⟨iY.B 0 23 (bM.put c n).1++[(20,eJ root),(21,jJ 22 [])],nJ 23++[(22,3,1)],35⟩:=WB 21 1 3 1 alO H rfl (ag3 (yp t c h ht root [] n hn) (by simp[Tb.cC,Tb.aY]) (by simp[Tb.cC,Tb.aY]) rfl)
def N9(c:Cs)(root:Int):bN 235 [.obj 20 0] ⟨iY.B 0 8 c++[(20,eJ root)],nJ 8,21⟩ (.p (.int root)) ⟨iY.B 0 8 c++[(20,eJ root)],nJ 8,21⟩:=by
 refine aC [_] func235 rfl ?_;simp[-az,eJ,results235];exact⟨[],H⟩
@[simp]def ag4{t:TypeId}{x:AV}:(AV.o_ t x).dW=some [.o_ t x]:=(rfl)
def LN(root:Int):bN 169 [.o_ 276 (.obj 0 0),.p (.int root)] ⟨[],[],1⟩ (.obj 1 0) ⟨[(1,⟨371,2,[.o_ 276 (.obj 0 0),.p (.int root)]⟩)],[],2⟩:=by
 refine aq [_] [8] [] [] func169 rfl ?_;simp[-az,results169];exact⟨[],H⟩
end Go.Av
namespace Go.Av
open Go.Proofs Go.Proofs.Tryz Go.aL
open Go.cD (Nd rB jU Right jv Step eI Key kE oN ym Aw jX FJ gj gq gV MG bh FK b_ rY yo k7 rV BM uC wG BN)
def aev(t:Nat)(c:Cs)(h:lN t c)(ht:t<=20000)(root:Int)(hroot:lB root)(key:Key)(v:Int)(ye:key.length<=1000000):bN 150 [.obj 20 0,.p (.str key),.p (.int v)] ⟨iY.B 0 8 c++[(20,eJ root)],nJ 8,21⟩ (.agg true [.p (.int (bM.jm c root key v).was),.p (.bool (bM.jm c root key v).had),.p (.int (bM.jm c root key v).e)]) ⟨iY.B 0 21 (bM.jm c root key v).s++[(20,eJ (bM.jm c root key v).root)],nJ 21,33⟩:=by
 refine aq [_,_,_] [34] [(11,[(4,.r 1),(11,.f [1]),(14,.s 1 [])])] [(1,33)] func150 rfl ?_;have YE:=YF key v;obtain⟨R,hR⟩:=mH (bM.jm c root key v);rw[<-hR];by_cases c1:rV key v=false
 .have e:R=⟨c,root,0,false,2⟩:=by rw[hR];unfold Go.cD.dG.jm;rw[ah (by rw[c1];simp)]
  rw[c1]at YE;rw[e];simp[eJ];refine cm YE ?_;simp[-az,results150];exact⟨dD 21 8 [],H⟩
 have jR:rV key v=true:=U c1;rw[jR]at YE;have hw:=Tj t c h root hroot key;have hst:=λl x=>MH (c:=c) (key:=key) hroot (l:=l) (x:=x);have h1:=KV key 40 root [] h;have wH:R=if(bM.way key 40 c root []).2.2=0 then bM.gZ root (uC (bM.way key 40 c root []).2.1 key).1 (uC (bM.way key 40 c root []).2.1 key).2 (bM.qE (bM.way key 40 c root []).1 (bM.way key 40 c root []).2.1 key v)else⟨(bM.way key 40 c root []).1,root,0,false,(bM.way key 40 c root []).2.2⟩:=by rw[hR];unfold Go.cD.dG.jm;rw[ai jR]
 generalize hq:bM.way key 40 c root []=q at hw h1 wH;simp only[hq]at hst;obtain⟨c1,l,e⟩:=q;simp only at hw h1 hst wH;simp[eJ];refine cm YE ?_;simp;refine jf (rN 8 [20]) hw ?_;by_cases c2:e=0
 .subst c2;rw[ai rfl]at wH;rcases uK l with rfl|⟨l,x,rfl⟩
  .have wn:IntKind.i64.wrap (-1)=-1:=by decide
   have hfm:b_ yo key=0:=rfl;have hhm:rY yo key=false:=rfl;have hlf:k7 yo key v=gj yo 0 key [v]:=rfl;have oO:jY yo:=⟨by simp[yo],by simp[yo],by simp[yo]⟩;have sx:jY (gj yo 0 key [v]):=wI oO ye (by simp[yo]) (by simp[yo]) H;have hok:=BO (n:=yo) h1 [] (key:=key) (v:=v) (by rw[hlf];exact sx) H;have hfb:=Tk yo key (by simp[yo]);rw[hfm,hhm]at hfb;simp only[Go.cD.dG.qE,FL,uC,Go.cD.dG.lS,hlf]at wH hok;simp[wn];refine fY hfb (by simp[yo]) ?_;simp;refine fY (Tl yo 0 key [v] oO H rfl H) (by simp[yo]) ?_;simp;have nu:=YG t c1 h1 O root (gj yo 0 key [v]) sx;have hpk:lN (t+16) (bM.put c1 (gj yo 0 key [v])).1:=h1.put (gj yo 0 key [v]);generalize hRR:bM.put c1 (gj yo 0 key [v])=RR at nu wH hok;obtain⟨S',DK,key',e'⟩:=RR;simp only at nu wH hok;refine jf (rN 21 [20,33]) nu ?_;obtain⟨hF,Tm⟩:=mH ((([]:List Step).foldr bM.qD ⟨S',([]:List Int),DK,key',e'⟩));have Ef:R=bM.gZ root 0 false hF:=by rw[Tm];exact wH
   have gs:R.s=(bM.gZ root 0 false hF).s:=(dg jX.s Ef).trans (iJ root _ _ hF).1;have gr:R.root=(bM.gZ root 0 false hF).root:=(dg jX.root Ef).trans (iJ root _ _ hF).2.1;have ge:R.e=(bM.gZ root 0 false hF).e:=(dg jX.e Ef).trans (iJ root _ _ hF).2.2.1;have gw:R.was=if R.e=0 then 0 else 0:=by rw[ge];exact(dg jX.was Ef).trans (iJ root _ _ hF).2.2.2.1
   have gh:R.had=if R.e=0 then false else false:=by rw[ge];exact(dg jX.had Ef).trans (iJ root _ _ hF).2.2.2.2
   by_cases c4:e'=0
   .subst c4;have HS:=Tn (t+16) 1 root ⟨S',([]:List Int),DK,key',0⟩ hok rfl ([]:List Step) H (by first|omega|simp) O O;simp only at HS;rw[<-Tm,<-ge,<-gs,<-gr]at HS;simp;refine jf (rN 36 [20,33,35]) HS ?_;by_cases c5:R.e=0
    .rw[ai c5]at gw gh;rw[gw,gh];simp[-az,c5,results150];exact⟨dD 21 48 [],H⟩
    .rw[ah c5]at gw gh;rw[gw,gh];have BP:(R.e !=0)=true:=U c5;simp[-az,BP,results150];exact⟨dD 21 48 [],H⟩
   .have hfe:R=⟨S',root,0,false,e'⟩:=by
     rw[Ef,Tm,mM (by exact c4)];unfold Go.cD.dG.gZ;rw[ah c4]
    rw[hfe];have uy:(e' !=0)=true:=U c4;have Tp:(e'==0)=false:=U c4;simp[-az,uy,Tp,results150];exact⟨dD 21 36 [],H⟩
  .rw[xU]at wH hst⊢;obtain⟨oO,hx,hxp,aj4⟩:=hst l x rfl;have w1:IntKind.i64.wrap ((l.length:Int)+1-1)=(l.length:Int):=by rw[aG];omega
   have w2:IntKind.i64.wrap (l.length:Int)=(l.length:Int):=aG;have tk:List.take l.length (l.map sI++[sI x])=l.map sI:=gN H;simp[w2,tk];refine⟨by intro y hy;rcases hy with⟨a,_,rfl⟩|rfl<;>rfl,?_⟩;refine cm (Tk x.n key (by have:=(gD hx).ks;omega)) ?_;have hx4:=hx.len;have hxv:x.n.vs.length<=100:=by have:=hx.form;split at this<;>omega
   by_cases ch:rY x.n key=true
   .obtain⟨KQ,hfk⟩:=BN ch;have hfv:b_ x.n key<x.n.vs.length:=by have:=hx.form;omega
    have hgx:BM x key=(x.n.vs[b_ x.n key],true):=by
     unfold BM;rw[ai ch,u6,n_ hfv];rfl
    obtain⟨hrf,qu,hrl⟩:=FM hx KQ;have Pe:(gV x.n (b_ x.n key)).vs.length<=100:=by simp[gV];omega
    have sx:=wI (i:=b_ x.n key) (us:=[v]) qu ye O Pe H;have hlf:k7 x.n key v=gj (gV x.n (b_ x.n key)) (b_ x.n key) key [v]:=by unfold k7;rw[ai ch]
    have hok:=BO (n:=x.n) h1 [x.p] (key:=key) (v:=v) (by rw[hlf];exact sx) H;simp only[Go.cD.dG.qE,uC,KW,BQ,Go.cD.dG.lS,hlf,hgx]at wH hok;simp[ch,hfv];refine cm (aew x.n (b_ x.n key) (gD hx) (sJ hx) KQ) ?_;simp;refine cm (Tl (gV x.n (b_ x.n key)) (b_ x.n key) key [v] qu H hrf O) ?_;simp;have nu:=yp t c1 h1 O root [x.p] (gj (gV x.n (b_ x.n key)) (b_ x.n key) key [v]) sx;have hpk:lN (t+16) (bM.put c1 (gj (gV x.n (b_ x.n key)) (b_ x.n key) key [v])).1:=h1.put (gj (gV x.n (b_ x.n key)) (b_ x.n key) key [v]);generalize hRR:bM.put c1 (gj (gV x.n (b_ x.n key)) (b_ x.n key) key [v])=RR at nu wH hok;obtain⟨S',DK,key',e'⟩:=RR;simp only at nu wH hok;refine jf (rN 21 [20,33,35]) nu ?_;obtain⟨hF,Tm⟩:=mH ((l.foldr bM.qD ⟨S',[x.p],DK,key',e'⟩));have Ef:R=bM.gZ root x.n.vs[b_ x.n key] true hF:=by rw[Tm];exact wH
    have gs:R.s=(bM.gZ root 0 false hF).s:=(dg jX.s Ef).trans (iJ root _ _ hF).1;have gr:R.root=(bM.gZ root 0 false hF).root:=(dg jX.root Ef).trans (iJ root _ _ hF).2.1;have ge:R.e=(bM.gZ root 0 false hF).e:=(dg jX.e Ef).trans (iJ root _ _ hF).2.2.1;have gw:R.was=if R.e=0 then x.n.vs[b_ x.n key]else 0:=by rw[ge];exact(dg jX.was Ef).trans (iJ root _ _ hF).2.2.2.1
    have gh:R.had=if R.e=0 then true else false:=by rw[ge];exact(dg jX.had Ef).trans (iJ root _ _ hF).2.2.2.2
    by_cases c4:e'=0
    .subst c4;have HS:=Tn (t+16) 1 root ⟨S',[x.p],DK,key',0⟩ hok rfl l oO (by first|omega|simp) O O;simp only at HS;rw[<-Tm,<-ge,<-gs,<-gr]at HS;simp;refine jf (rN 36 [20,33,35]) HS ?_;by_cases c5:R.e=0
     .rw[ai c5]at gw gh;rw[gw,gh];simp[-az,c5,results150];exact⟨dD 21 48 [],H⟩
     .rw[ah c5]at gw gh;rw[gw,gh];have BP:(R.e !=0)=true:=U c5;simp[-az,BP,results150];exact⟨dD 21 48 [],H⟩
    .have hfe:R=⟨S',root,0,false,e'⟩:=by
      rw[Ef,Tm,mM (by exact c4)];unfold Go.cD.dG.gZ;rw[ah c4]
     rw[hfe];have uy:(e' !=0)=true:=U c4;have Tp:(e'==0)=false:=U c4;simp[-az,uy,Tp,results150];exact⟨dD 21 36 [],H⟩
   .have ch':rY x.n key=false:=U ch;have hgx:BM x key=(0,false):=by unfold BM;rw[ah ch]
    have sx:=wI (i:=b_ x.n key) (us:=[v]) (gD hx) ye O hxv H;have hlf:k7 x.n key v=gj x.n (b_ x.n key) key [v]:=by unfold k7;rw[ah ch]
    have hok:=BO (n:=x.n) h1 [x.p] (key:=key) (v:=v) (by rw[hlf];exact sx) H;simp only[Go.cD.dG.qE,uC,KW,BQ,Go.cD.dG.lS,hlf,hgx]at wH hok;simp[ch'];refine cm (Tl x.n (b_ x.n key) key [v] (gD hx) H (sJ hx) (wG _ _)) ?_;simp;have nu:=yp t c1 h1 O root [x.p] (gj x.n (b_ x.n key) key [v]) sx;have hpk:lN (t+16) (bM.put c1 (gj x.n (b_ x.n key) key [v])).1:=h1.put (gj x.n (b_ x.n key) key [v]);generalize hRR:bM.put c1 (gj x.n (b_ x.n key) key [v])=RR at nu wH hok;obtain⟨S',DK,key',e'⟩:=RR;simp only at nu wH hok;refine jf (rN 21 [20,33,35]) nu ?_;obtain⟨hF,Tm⟩:=mH ((l.foldr bM.qD ⟨S',[x.p],DK,key',e'⟩));have Ef:R=bM.gZ root 0 false hF:=by rw[Tm];exact wH
    have gs:R.s=(bM.gZ root 0 false hF).s:=(dg jX.s Ef).trans (iJ root _ _ hF).1;have gr:R.root=(bM.gZ root 0 false hF).root:=(dg jX.root Ef).trans (iJ root _ _ hF).2.1;have ge:R.e=(bM.gZ root 0 false hF).e:=(dg jX.e Ef).trans (iJ root _ _ hF).2.2.1;have gw:R.was=if R.e=0 then 0 else 0:=by rw[ge];exact(dg jX.was Ef).trans (iJ root _ _ hF).2.2.2.1
    have gh:R.had=if R.e=0 then false else false:=by rw[ge];exact(dg jX.had Ef).trans (iJ root _ _ hF).2.2.2.2
    by_cases c4:e'=0
    .subst c4;have HS:=Tn (t+16) 1 root ⟨S',[x.p],DK,key',0⟩ hok rfl l oO (by first|omega|simp) O O;simp only at HS;rw[<-Tm,<-ge,<-gs,<-gr]at HS;simp;refine jf (rN 36 [20,33,35]) HS ?_;by_cases c5:R.e=0
     .rw[ai c5]at gw gh;rw[gw,gh];simp[-az,c5,results150];exact⟨dD 21 48 [],H⟩
     .rw[ah c5]at gw gh;rw[gw,gh];have BP:(R.e !=0)=true:=U c5;simp[-az,BP,results150];exact⟨dD 21 48 [],H⟩
    .have hfe:R=⟨S',root,0,false,e'⟩:=by
      rw[Ef,Tm,mM (by exact c4)];unfold Go.cD.dG.gZ;rw[ah c4]
     rw[hfe];have uy:(e' !=0)=true:=U c4;have Tp:(e'==0)=false:=U c4;simp[-az,uy,Tp,results150];exact⟨dD 21 36 [],H⟩
 .have eY:(e !=0)=true:=U c2;rw[ah c2]at wH;rw[wH];simp[-az,eY,results150];exact⟨dD 21 21 [],H⟩
end Go.Av
namespace Go.cD.dG
end Go.cD.dG
namespace Go.aL
open Go.cD.dG
end Go.aL
namespace Go.Av
open Go.Proofs Go.aL
open Go.cD (Nd rB jU Right jv)
end Go.Av
namespace Go.cD.dG
end Go.cD.dG
namespace Go.aL
open Go.cD.dG
open Go.cD (Key Hp)
end Go.aL
namespace Go.Av
open Go.Proofs Go.aL
open Go.cD (Nd rB jU Right jv Key Hp M8 eI tU)
open Go.cD.dG (foldM)
end Go.Av
namespace Go.aL
open Go.Av
open Go.cD (Nd rB jU Ck acH Key Right)
end Go.aL
namespace Go.Av
open Go.Proofs Go.aL
open Go.cD (Nd rB jU Right jv Key Ck acH aoV aoW ak5)
open Go.cD.dG (acr)
end Go.Av
namespace Go.Av
open Go.Proofs Go.aL
open Go.cD (Nd rB jU Key Ck)
end Go.Av
namespace Go.Av
open Go.Proofs Go.aL
end Go.Av
namespace Go.aL
open Go.Av
def St.txR(s:St)(key:aF)(v:Int):=bM.jm ⟨s,[],[]⟩ s.root key v
end Go.aL
namespace Go.Av
open Go.Proofs Go.aL
def qi{P:Program}{tb:Tb}{kt:AV->Tb->Prop}{gf:FuncId}{caps:List PC}{zs ys l:List AV}{ts ts':Tb}{r:AV}(rn:List Nat)(h:dm P gf zs ts r ts')(hz:AV.cp.eu (fh rn tb.nx) zs=ys++caps.map .p)(hs:rn.length=ts.nx/\ts.nx<=ts'.nx/\rn.Nodup/\∀j∈rn,j<tb.nx)(hl:toAll l ys)(hb:aA tb.bx (fD (fh rn tb.nx) ts.bx))(hr:aA tb.rw (jj (fh rn tb.nx) ts.rw))(hk:kt (r.cp (fh rn tb.nx)) (tb.merge (ts.cp (fh rn tb.nx)) (ts'.cp (fh rn tb.nx)))):jN P gf caps l tb kt:=V4 (xg h rn tb.nx hs.1 hs.2.1 hs.2.2.1 hs.2.2.2) hz hl hb hr (by show fh rn tb.nx ts.nx=tb.nx;rw[pF _ _ _ O];omega) hk
end Go.Av
namespace Go.cD
def XG(st:Step)(n m:Nd):Nd:=if st.c=0 then xB n (st.n.ks.getD (r_ st.c) []) m else xB m (st.n.ks.getD (r_ st.c) []) n
def Z'(n:Nd)(k:Nat)(pg:List Int)(key:Key):Nd:=if pg.length=2 then gj (gV n k) k key pg else gq (gV n k) k (pg.getD 0 0)
namespace dG
variable{σ:Type}(I:dG σ)
def qC(st:Step):Int:=st.n.vs.getD (Kj st.c) 0
def XH(s:σ)(st:Step)(m:Nd):Int:=if(I.tl s (qC st)).2.2=0 then(if(I.tl s (qC st)).2.1.lf=m.lf then 0 else 10)else(I.tl s (qC st)).2.2
def Bq(st:Step)(u:vV σ):vV σ:=if I.XH u.s st u.n=0 then
 ⟨(
  I.put (I.tl u.s (qC st)).1 (XG st u.n (I.tl u.s (qC st)).2.1)).1,u.old++[st.p]++[qC st],
  if(I.put (I.tl u.s (qC st)).1 (XG st u.n (I.tl u.s (qC st)).2.1)).2.2.2=0 then
   Z' st.n (r_ st.c) (I.put (I.tl u.s (qC st)).1 (XG st u.n (I.tl u.s (qC st)).2.1)).2.1 (I.put (I.tl u.s (qC st)).1 (XG st u.n (I.tl u.s (qC st)).2.1)).2.2.1 else jU,
  (I.put (I.tl u.s (qC st)).1 (XG st u.n (I.tl u.s (qC st)).2.1)).2.2.2⟩else⟨(I.tl u.s (qC st)).1,u.old++[st.p],jU,I.XH u.s st u.n⟩
def EH(st:Step)(u:vV σ):vV σ:=⟨(I.sv u.s u.n).1,u.old++[st.p],if(I.sv u.s u.n).2.2=0 then gq st.n st.c (I.sv u.s u.n).2.1 else jU,(I.sv u.s u.n).2.2⟩
def vL(st:Step)(u:vV σ):vV σ:=if u.e=0 then(if Gn u.n=true then I.Bq st u else I.EH st u)else u
def mK(root:Int)(was:Int)(u:vV σ):jX σ:=if u.e=0 then
 if u.n.ks.length=0 then⟨I.gB u.s u.old,if u.n.lf=true then 0 else u.n.vs.getD 0 0,was,true,0⟩
 else if(I.sv u.s u.n).2.2=0 then⟨I.gB (I.sv u.s u.n).1 u.old,(I.sv u.s u.n).2.1,was,true,0⟩
 else⟨(I.sv u.s u.n).1,root,0,false,(I.sv u.s u.n).2.2⟩else⟨u.s,root,0,false,u.e⟩
def jk(s:σ)(root:Int)(key:Key):jX σ:=if(I.way key 40 s root []).2.2=0 then
 match(I.way key 40 s root []).2.1.getLast? with
 |none=>⟨(I.way key 40 s root []).1,root,0,false,0⟩
 |some x=>if rY x.n key=true then I.mK root (BM x key).1 ((I.way key 40 s root []).2.1.dropLast.foldr I.vL ⟨(I.way key 40 s root []).1,[x.p],gV x.n (b_ x.n key),0⟩)else⟨(I.way key 40 s root []).1,root,0,false,0⟩else⟨(I.way key 40 s root []).1,root,0,false,(I.way key 40 s root []).2.2⟩
theorem C5{u:vV σ}(h:u.e≠0):∀(l:List Step),l.foldr I.vL u=u
 |[]=>rfl
 |x::l=>by simp only[List.foldr_cons,C5 h l];unfold vL;rw[if_neg h]
def af4(root was:Int)(u:vV σ):(I.mK root was u).s=(I.mK root 0 u).s/\(I.mK root was u).root=(I.mK root 0 u).root/\(I.mK root was u).e=(I.mK root 0 u).e/\(I.mK root was u).was=(if(I.mK root 0 u).e=0 then was else 0)/\(I.mK root was u).had=(if(I.mK root 0 u).e=0 then true else false):=by
 unfold mK;by_cases c1:u.e=0
 .simp only[if_pos c1];by_cases c2:u.n.ks.length=0
  .simp[c2]
  .simp only[if_neg c2];by_cases c3:(I.sv u.s u.n).2.2=0
   .simp[c3]
   .simp[c3]
 .simp[c1]
end dG
end Go.cD
namespace Go.Av
open Go.Proofs Go.Proofs.Tryz Go.aL
open Go.cD (Nd rB jU Right jv Step eI Key vV jX gq)
def ZK(t:Nat)(c:Cs)(h:lN t c)(ht:t<=30000)(root:Int)(old:List Int)(st:Step)(hst:jY st.n)(hc:st.c<st.n.vs.length)(n:Nd)(hn:jY n):bN 274 [.obj 21 0,.p (sI st),.p (uS n)] ⟨iY.B 0 8 c++[(20,eJ root),(21,jJ 22 old)],nJ 8++[(22,3,1)],23⟩ (.agg true [.p (uS (if(bM.sv c n).2.2=0 then gq st.n st.c (bM.sv c n).2.1 else jU)),.p (.int (bM.sv c n).2.2)]) ⟨iY.B 0 23 (bM.sv c n).1++[(20,eJ root),(21,jJ 22 old)],nJ 23++[(22,3,1)],35⟩:=by
 have hs:=qb t c h ht n hn;generalize hR:bM.sv c n=R at hs⊢;obtain⟨c',p,e⟩:=R;simp only at hs⊢;refine aq [_,_] [] [(1,[(3,.r 1),(6,.r 2),(8,.w [1,2])])] [(1,21),(2,20)] func274 rfl ?_;simp[eJ,jJ,Et];refine k9 (rN 8 []) hs H H H H ?_;by_cases c3:e=0
 .subst c3;rw[ai rfl];simp;refine cm (Ln st.n st.c p hst hc) ?_;simp[-az,results274];exact⟨dD 23 24 [],H⟩
 .have mg:(e !=0)=true:=U c3;rw[ah c3];simp[-az,mg,jU,results274];exact⟨dD 23 24 [],H⟩
def ae4(t:Nat)(c:Cs)(h:lN t c)(ht:t+1000<=29000)(root:Int)(old:List Int)(ho:old.length<=1000)(n:Nd)(hn:jY n)(hv:n.lf=false->0<n.vs.length)(R:jX Cs)(hR:R=bM.mK root 0 ⟨c,old,n,0⟩):bN 275 [.obj 21 0,.p (uS n)] ⟨iY.B 0 8 c++[(20,eJ root),(21,jJ 22 old)],nJ 8++[(22,3,1)],23⟩ (.p (.int R.e)) ⟨iY.B 0 23 R.s++[(20,eJ R.root),(21,jJ 22 old)],nJ 23++[(22,3,1)],35⟩:=by
 refine aq [_] [] [(7,[(3,.r 1),(6,.r 2),(8,.w [1,2])])] [(1,21),(2,20)] func275 rfl ?_;have hk1:=hn.ks;by_cases c1:n.ks.length=0
 .have jR:n.ks=[]:=TK.1 c1;by_cases c2:n.lf=true
  .have e:R=⟨bM.gB c old,0,0,true,0⟩:=by rw[hR];unfold Go.cD.dG.mK;simp[jR,c2]
   rw[e];have hd:=w_ t c h root old ho O 0;simp[jR,c2];refine jf (rN 8 [20,21,22]) hd ?_;simp[-az,results275];exact⟨[],H⟩
  .have eY:n.lf=false:=U c2;have hv':=hv eY;have e:R=⟨bM.gB c old,n.vs[0],0,true,0⟩:=by rw[hR];unfold Go.cD.dG.mK;simp[jR,eY,u6,n_ hv']
   rw[e];have hd:=w_ t c h root old ho O n.vs[0];simp[jR,eY,hv'];refine jf (rN 8 [20,21,22]) hd ?_;simp[-az,results275];exact⟨[],H⟩
 .have jR:((n.ks.length:Int)==0)=false:=by simp;intro hz;rw[hz]at c1;simp at c1
  have wH:R=if(bM.sv c n).2.2=0 then⟨bM.gB (bM.sv c n).1 old,(bM.sv c n).2.1,0,true,0⟩else⟨(bM.sv c n).1,root,0,false,(bM.sv c n).2.2⟩:=by rw[hR];unfold Go.cD.dG.mK;simp[c1]
  have c1n:n.ks≠[]:=λhz=>c1 (by rw[hz];rfl);have hs:=qb t c h O n hn;have hok:=h.Zf n;generalize hQ:bM.sv c n=Q at hs hok wH;obtain⟨c',p,e⟩:=Q;simp only at hs hok wH;rcases Bool.eq_false_or_eq_true n.lf with hl|hl
  all_goals
   simp[hl,jR,eJ,jJ,Et];refine k9 (rN 8 []) hs H H H H ?_;by_cases c3:e=0
   .subst c3;rw[ai rfl]at wH;rw[wH];have hd:=w_ (t+8) c' hok root old ho O p;simp;refine jf (rN 23 [20,21,22]) hd ?_;simp[-az,results275];exact⟨dD 23 35 [],H⟩
   .have mg:(e==0)=false:=U c3;rw[ah c3]at wH;rw[wH];simp[-az,mg,results275];exact⟨[],H⟩
end Go.Av
namespace Go.Av
open Go.Proofs Go.Proofs.Tryz Go.aL
open Go.cD (Nd rB jU Right jv Step eI Key vV jX gq Kj r_)
open Go.cD.dG (qC)
@[reducible]def jnP(i:Nat)(a b:Nd):PC:= .agg false [.int i,.bool a.lf,.sl (a.ks.map PC.str),.sl (a.vs.map PC.int),.bool b.lf,.sl (b.ks.map PC.str),.sl (b.vs.map PC.int)]
def bsP(c:Cs)(st:Step)(m:Nd):PC:=if bM.XH c st m=0 then(if st.c=0 then jnP (r_ st.c) m (bM.tl c (qC st)).2.1 else jnP (r_ st.c) (bM.tl c (qC st)).2.1 m)else jnP 0 jU jU
def bsO(c:Cs)(st:Step)(m:Nd)(old:List Int):List Int:=if bM.XH c st m=0 then old++[qC st]else old
def QN(t:Nat)(c:Cs)(h:lN t c)(ht:t<=30000)(root:Int)(old:List Int)(ho:old.length<=1000000)(st:Step)(hi:Kj st.c<st.n.vs.length)(hc:st.c<=1000)(hp:lB (qC st))(m:Nd):bN 338 [.obj 21 0,.p (sI st),.p (uS m)] ⟨iY.B 0 8 c++[(20,eJ root),(21,jJ 22 old)],nJ 8++[(22,3,1)],23⟩ (.agg true [.p (bsP c st m),.p (.int (bM.XH c st m))]) ⟨iY.B 0 23 (bM.tl c (qC st)).1++[(20,eJ root),(21,jJ 35 (bsO c st m old))],nJ 23++[(35,3,1)],36⟩:=by
 refine qL (rs:=[_,_]) [] [(9,[(4,.r 1),(12,.f [1]),(15,.s 1 [])])] [(1,21)] [(4,(.one 0 (.one 1 (.one 2 (.one 4 (.one 5 (.one 6 (.one 7 (.one 8 (.one 9 (.br 3 (.br 10 (.one 11 (.one 12 (.one 13 (.br 14 (.br 15 (.one 16 .lf) .lf) .lf)))) (.br 14 (.br 10 (.one 11 (.one 12 (.one 13 (.br 15 (.one 16 .lf) .lf)))) .lf) .lf)) (.br 14 (.br 3 (.br 10 (.one 11 (.one 12 (.one 13 (.br 15 (.one 16 .lf) .lf)))) .lf) .lf) .lf))))))))))))] mixed func338 rfl bp bp (by simp[ntmps338]) rfl ?_;have hl:=NL t c h root (qC st) hp;have hgd:qC st=st.n.vs[Kj st.c]:=by unfold Go.cD.dG.qC;rw[u6,n_ hi];rfl
 obtain⟨E,hE⟩:=mH (bM.XH c st m);obtain⟨P,hP⟩:=mH (bsP c st m);obtain⟨O1,hO⟩:=mH (bsO c st m old);rw[<-hE,<-hP,<-hO];unfold bsP at hP;unfold bsO at hO;rw[<-hE]at hP hO;unfold Go.cD.dG.XH at hE;generalize hQ:bM.tl c (qC st)=Q at hl hE hP⊢;obtain⟨c',tn,te⟩:=Q;simp only at hl hE hP hO⊢;generalize qC st=np at*;subst hgd;obtain⟨⟨nl,nk,nv⟩,p,cc⟩:=st
 replace hi:Kj cc<nv.length:=hi
 replace hc:cc<=1000:=hc
 replace hp:lB nv[Kj cc]:=hp
 simp only at hE hP hO hl;cases cc with
 |zero=>
  have e1:Kj 0=1:=rfl;have e2:r_ 0=0:=rfl;have w1:IntKind.i64.wrap (0-1)=-1:=by decide
  have w2:IntKind.i64.wrap (-1)=-1:=by decide
  simp only[e1,e2]at hi hp hE hP hO hl;simp[w2,hi,eJ,jJ];refine⟨⟨?_,?_⟩,?_⟩
  .refine jf (rN 8 [20]) hl ?_;by_cases c1:te=0
   .subst c1;rw[ai rfl]at hE;by_cases c2:tn.lf=m.lf
    .rw[ai c2]at hE;rw[hE]at hP hO⊢;simp only[cr]at hP hO;rw[hP,hO];have eY:(tn.lf !=m.lf)=false:=by simp[c2]
     simp[-az,eY,hi,results338];exact⟨O,O,dD 23 24 [(35,37)],H⟩
    .rw[ah c2]at hE;rw[hE]at hP hO⊢;have O5:¬(10:Int)=0:=by decide
     rw[ah O5]at hP hO;rw[hP,hO];have eY:(tn.lf !=m.lf)=true:=U c2;simp[-az,eY,jU,results338];exact⟨dD 23 24 [(35,22)],H⟩
   .rw[ah c1]at hE;rw[hE]at hP hO⊢;rw[ah c1]at hP hO;rw[hP,hO];have jR:(te==0)=false:=U c1;have Dg:(te !=0)=true:=U c1;simp[-az,jR,Dg,jU,results338];exact⟨dD 23 24 [(35,22)],H⟩
  .refine jf (rN 8 [20]) hl ?_;by_cases c1:te=0
   .subst c1;rw[ai rfl]at hE;by_cases c2:tn.lf=m.lf
    .rw[ai c2]at hE;rw[hE]at hP hO⊢;simp only[cr]at hP hO;rw[hP,hO];have eY:(tn.lf !=m.lf)=false:=by simp[c2]
     simp[-az,eY,hi,results338];exact⟨O,O,dD 23 25 [(35,37)],H⟩
    .rw[ah c2]at hE;rw[hE]at hP hO⊢;have O5:¬(10:Int)=0:=by decide
     rw[ah O5]at hP hO;rw[hP,hO];have eY:(tn.lf !=m.lf)=true:=U c2;simp[-az,eY,jU,results338];exact⟨dD 23 25 [(35,22)],H⟩
   .rw[ah c1]at hE;rw[hE]at hP hO⊢;rw[ah c1]at hP hO;rw[hP,hO];have jR:(te==0)=false:=U c1;have Dg:(te !=0)=true:=U c1;simp[-az,jR,Dg,jU,results338];exact⟨dD 23 25 [(35,22)],H⟩
  .refine jf (rN 8 [20]) hl ?_;by_cases c1:te=0
   .subst c1;rw[ai rfl]at hE;by_cases c2:tn.lf=m.lf
    .rw[ai c2]at hE;rw[hE]at hP hO⊢;simp only[cr]at hP hO;rw[hP,hO];have eY:(tn.lf !=m.lf)=false:=by simp[c2]
     simp[-az,eY,hi,results338];exact⟨O,O,dD 23 25 [(35,37)],H⟩
    .rw[ah c2]at hE;rw[hE]at hP hO⊢;have O5:¬(10:Int)=0:=by decide
     rw[ah O5]at hP hO;rw[hP,hO];have eY:(tn.lf !=m.lf)=true:=U c2;simp[-az,eY,jU,results338];exact⟨dD 23 25 [(35,22)],H⟩
   .rw[ah c1]at hE;rw[hE]at hP hO⊢;rw[ah c1]at hP hO;rw[hP,hO];have jR:(te==0)=false:=U c1;have Dg:(te !=0)=true:=U c1;simp[-az,jR,Dg,jU,results338];exact⟨dD 23 25 [(35,22)],H⟩
 |succ cc=>
  have e1:Kj (cc+1)=cc:=rfl;have e2:r_ (cc+1)=cc:=rfl;have w1:IntKind.i64.wrap (((cc+1:Nat):Int)-1)=(cc:Int):=by rw[aG];omega
  have w2:IntKind.i64.wrap (cc:Int)=(cc:Int):=aG;have w3:¬((cc:Int)<0):=O;have w4:(cc:Int)<(cc:Int)+1:=O;have w5:¬(cc+1=0):=O;simp only[e1,e2,w5,dc]at hi hp hE hP hO hl;simp[w2,w3,hi,eJ,jJ];refine⟨⟨?_,?_⟩,?_⟩
  .refine jf (rN 8 [20]) hl ?_;by_cases c1:te=0
   .subst c1;rw[ai rfl]at hE;by_cases c2:tn.lf=m.lf
    .rw[ai c2]at hE;rw[hE]at hP hO⊢;simp only[cr]at hP hO;rw[hP,hO];have eY:(tn.lf !=m.lf)=false:=by simp[c2]
     simp[-az,eY,hi,w4,results338];exact⟨O,O,dD 23 24 [(35,37)],H⟩
    .rw[ah c2]at hE;rw[hE]at hP hO⊢;have O5:¬(10:Int)=0:=by decide
     rw[ah O5]at hP hO;rw[hP,hO];have eY:(tn.lf !=m.lf)=true:=U c2;simp[-az,eY,jU,results338];exact⟨dD 23 24 [(35,22)],H⟩
   .rw[ah c1]at hE;rw[hE]at hP hO⊢;rw[ah c1]at hP hO;rw[hP,hO];have jR:(te==0)=false:=U c1;have Dg:(te !=0)=true:=U c1;simp[-az,jR,Dg,jU,results338];exact⟨dD 23 24 [(35,22)],H⟩
  .refine jf (rN 8 [20]) hl ?_;by_cases c1:te=0
   .subst c1;rw[ai rfl]at hE;by_cases c2:tn.lf=m.lf
    .rw[ai c2]at hE;rw[hE]at hP hO⊢;simp only[cr]at hP hO;rw[hP,hO];have eY:(tn.lf !=m.lf)=false:=by simp[c2]
     simp[-az,eY,hi,w4,results338];exact⟨O,O,dD 23 25 [(35,37)],H⟩
    .rw[ah c2]at hE;rw[hE]at hP hO⊢;have O5:¬(10:Int)=0:=by decide
     rw[ah O5]at hP hO;rw[hP,hO];have eY:(tn.lf !=m.lf)=true:=U c2;simp[-az,eY,jU,results338];exact⟨dD 23 25 [(35,22)],H⟩
   .rw[ah c1]at hE;rw[hE]at hP hO⊢;rw[ah c1]at hP hO;rw[hP,hO];have jR:(te==0)=false:=U c1;have Dg:(te !=0)=true:=U c1;simp[-az,jR,Dg,jU,results338];exact⟨dD 23 25 [(35,22)],H⟩
  .refine jf (rN 8 [20]) hl ?_;by_cases c1:te=0
   .subst c1;rw[ai rfl]at hE;by_cases c2:tn.lf=m.lf
    .rw[ai c2]at hE;rw[hE]at hP hO⊢;simp only[cr]at hP hO;rw[hP,hO];have eY:(tn.lf !=m.lf)=false:=by simp[c2]
     simp[-az,eY,hi,w4,results338];exact⟨O,O,dD 23 25 [(35,37)],H⟩
    .rw[ah c2]at hE;rw[hE]at hP hO⊢;have O5:¬(10:Int)=0:=by decide
     rw[ah O5]at hP hO;rw[hP,hO];have eY:(tn.lf !=m.lf)=true:=U c2;simp[-az,eY,jU,results338];exact⟨dD 23 25 [(35,22)],H⟩
   .rw[ah c1]at hE;rw[hE]at hP hO⊢;rw[ah c1]at hP hO;rw[hP,hO];have jR:(te==0)=false:=U c1;have Dg:(te !=0)=true:=U c1;simp[-az,jR,Dg,jU,results338];exact⟨dD 23 25 [(35,22)],H⟩
end Go.Av
namespace Go.Av
open Go.Proofs Go.Proofs.Tryz Go.aL
open Go.cD (Nd rB jU Right jv Step eI Key vV jX gq Kj r_ XG Z' xB gV gj bh)
open Go.cD.dG (qC)
def WO(a:Nd)(key:Key)(c:Nd)(ha:jY a)(hc:jY c):cq 339 [uS a,.str key,uS c] (uS (xB a key c)):=by
 have h:=aaX a.lf a.ks a.vs key c.lf c.ks c.vs (by have:=ha.ks;omega) (by have:=ha.vs;omega) (by have:=hc.ks;omega) (by have:=hc.vs;omega);simpa[xB,cW]using h
def A0{a c:Nd}{key:Key}(ha:jY a)(hc:jY c)(hk:key.length<=1000000)(h1:a.ks.length<=100)(h2:c.ks.length<=100)(h3:a.vs.length<=100)(h4:c.vs.length<=100):jY (xB a key c):=by
 refine⟨?_,?_,?_⟩
 .simp only[xB,mo];split<;>simp<;>omega
 .simp only[xB,mo];omega
 .intro x hx;simp only[xB,lD]at hx;rcases hx with hx|hx|hx
  .exact ha.keys x hx
  .split at hx
   .simp at hx
   .rw[gK]at hx;subst hx;exact hk
  .exact hc.keys x hx
structure I0(n:Nd):Prop where
 sm:jY n
 k:n.ks.length<=20
 v:n.vs.length<=20
def ag7{st:Step}(hst:Right st.n)(hi:Kj st.c<st.n.vs.length):lB (qC st):=by
 unfold Go.cD.dG.qC;rw[u6,n_ hi];have h1:=hst.vals _ (bB hi);exact⟨by have:=h1.1;simp only[rf];omega,by have:=h1.2;simp only[rf];omega⟩
def aaz(t:Nat)(c:Cs)(h:lN t c)(ht:t+8<=30000)(root:Int)(old:List Int)(ho:old.length<=100000)(st:Step)(hst:Right st.n)(hl:st.n.lf=false)(hc:st.c<=st.n.ks.length)(m:Nd)(hm:I0 m)(u:vV Cs)(hu:u=bM.Bq st ⟨c,old,m,0⟩):bN 273 [.obj 21 0,.p (sI st),.p (uS m)] ⟨iY.B 0 8 c++[(20,eJ root),(21,jJ 22 (old++[st.p]))],nJ 8++[(22,3,1)],23⟩ (.agg true [.p (uS u.n),.p (.int u.e)]) ⟨iY.B 0 23 u.s++[(20,eJ root),(21,jJ 35 u.old)],nJ 23++[(35,3,1)],36⟩:=by
 have hf:=hst.form;rw[hl]at hf;have h1k:=hst.inner hl;have h4k:=hst.len;have hi:Kj st.c<st.n.vs.length:=by unfold Go.cD.Kj;simp at hf;split<;>omega
 have hki:r_ st.c<st.n.ks.length:=by unfold Go.cD.r_;split<;>omega
 have hgk:st.n.ks.getD (r_ st.c) []=st.n.ks[r_ st.c]:=by rw[u6,n_ hki];rfl
 have hkk:(st.n.ks.getD (r_ st.c) []).length<=1000000:=by rw[hgk];have:=(hst.keys _ (bB hki)).2;omega
 have JA:=QN t c h O root (old++[st.p]) (by simp;omega) st hi O (ag7 hst hi) m;refine aq [_,_] [] [(4,[(2,.r 1),(7,.r 1),(11,.r 1),(13,.w [1,2,3])]),(10,[(0,.r 2),(2,.r 1),(7,.s 3 [])])] [(1,37),(2,50),(3,23)] func273 rfl ?_;have abb:=hm.sm;obtain⟨hrf,qu,hrl⟩:=FM hst hki;have Pe:r_ st.c<(gV st.n (r_ st.c)).vs.length:=by simp[gV,bh,hl];simp at hf;omega
 simp[eJ,jJ];refine jf (rN 8 [20,21,22]) JA ?_;clear JA;obtain⟨E,hE⟩:=mH (bM.XH c st m);rw[<-hE];unfold bsP bsO;rw[<-hE];unfold Go.cD.dG.Bq at hu;simp only at hu;rw[<-hE]at hu;unfold XG at hu;unfold Go.cD.dG.XH at hE;simp only[hgk]at hu hkk;have htl:=xj c (qC st);have hok:=h.tl (qC st);generalize bM.tl c (qC st)=tt at*;obtain⟨c',tn,te⟩:=tt;simp only at hu hE htl hok⊢;by_cases c0:E=0
 .have c1:te=0:=by
   rw[hE]at c0;by_cases c:te=0
   .exact c
   .rw[ah c]at c0;exact absurd c0 c
  subst c1;have hrt:Right tn:=by
   rcases htl with h|h
   .exact h.2
   .exact absurd rfl h.2
  have Oi:jY tn:=gD hrt;have ht4:=hrt.len;have htv:tn.vs.length<=100:=by have:=hrt.form;split at this<;>omega
  have hmk:=hm.k;have hmv:=hm.v;rw[ai c0]at hu;rw[ai c0,ai c0];subst c0;by_cases c3:st.c=0
  case' pos=>
   rw[ai c3]at hu;rw[ai c3];have hmg:=WO m st.n.ks[r_ st.c] tn abb Oi;have Bg:jY (xB m st.n.ks[r_ st.c] tn):=A0 abb Oi hkk O O O O;generalize xB m st.n.ks[r_ st.c] tn=M at*
  case' neg=>
   rw[ah c3]at hu;rw[ah c3];have hmg:=WO tn st.n.ks[r_ st.c] m Oi abb;have Bg:jY (xB tn st.n.ks[r_ st.c] m):=A0 Oi abb hkk O O O O;generalize xB tn st.n.ks[r_ st.c] m=M at*
  all_goals
   simp[hki];refine aZ hmg ?_;simp;have RG:=Gl hok Bg;have nu:=yp t c' hok O root (old++[st.p]++[qC st]) M Bg;generalize bM.put c' M=pp at*;obtain⟨S',DK,key',e'⟩:=pp;simp only at hu RG nu;refine jf (rN 24 [20,21,36]) nu ?_;by_cases c4:e'=0
   .subst c4;have MZ:0<DK.length:=RG.2.1 rfl;have Yp:=RG.1;rw[ai rfl]at hu;unfold Z' at hu;simp;refine cm (aew st.n (r_ st.c) (gD hst) (sJ hst) hki) ?_;by_cases c5:DK.length=2
    .have BP:((DK.length:Int)==2)=true:=by simp;omega
     rw[ai c5]at hu;rw[hu];simp[BP];refine cm (Tl (gV st.n (r_ st.c)) (r_ st.c) key' DK qu O hrf O) ?_;simp[-az,results273];exact⟨dD 23 38 [(35,36)],H⟩
    .have BP:((DK.length:Int)==2)=false:=by simp;omega
     have hg0:DK.getD 0 0=DK[0]:=by rw[u6,n_ MZ];rfl
     rw[ah c5,hg0]at hu;rw[hu];simp[BP,MZ];refine aZ (Ln (gV st.n (r_ st.c)) (r_ st.c) DK[0] qu Pe) ?_;simp[-az,results273];exact⟨dD 23 38 [(35,36)],H⟩
   .have uy:(e' !=0)=true:=U c4;rw[ah c4]at hu;rw[hu];simp[-az,uy,jU,results273];exact⟨dD 23 38 [(35,36)],H⟩
 .rw[ah c0]at hu;rw[ah c0,ah c0];rw[hu];have c0':(E !=0)=true:=U c0;simp[-az,c0',jU,results273];exact⟨dD 23 24 [(35,36)],H⟩
end Go.Av
namespace Go.aL
open Go.Av
open Go.cD (Nd rB jU Right Step Key vV jX gq Kj r_ XG Z' xB gV gj bh Gn dG.qC)
structure Qu(t b:Nat)(u:vV Cs):Prop where
 s:lN t u.s
 old:u.old.length<=b
 n:u.e=0->I0 u.n
 v:u.e=0->u.n.lf=false->0<u.n.vs.length
def Vx{st:Step}(hx:Ao st):Kj st.c<st.n.vs.length/\r_ st.c<st.n.ks.length/\(st.n.ks.getD (r_ st.c) []).length<=1000000:=by
 have hf:=hx.rt.form;rw[hx.Uk]at hf;have h1k:=hx.rt.inner hx.Uk;have hc:=hx.c;have hi:Kj st.c<st.n.vs.length:=by unfold Go.cD.Kj;simp at hf;split<;>omega
 have hki:r_ st.c<st.n.ks.length:=by unfold Go.cD.r_;split<;>omega
 refine⟨hi,hki,?_⟩;rw[u6,n_ hki];have:=(hx.rt.keys _ (bB hki)).2;simp only[rf];omega
def I3{n:Nd}(h:Right n):I0 n:=⟨gD h,by have:=h.len;omega,by have h0:=h.len;have:=h.form;split at this<;>omega⟩
def afD{st:Step}(hx:Ao st){n tn:Nd}(hu:I0 n)(ht:Right tn):jY (XG st n tn):=by
 have h1:=(Vx hx).2.2;have h2:=I3 ht;have:=hu.k;have:=hu.v;have:=h2.k;have:=h2.v;unfold XG;split
 .exact A0 hu.sm h2.sm h1 O O O O
 .exact A0 h2.sm hu.sm h1 O O O O
def I4{n:Nd}(h:I0 n)(c:Nat)(p:Int):I0 (gq n c p):=⟨⟨h.sm.ks,by have:=h.sm.vs;simp[gq];omega,h.sm.keys⟩,h.k,by have:=h.v;simp[gq];omega⟩
def Vy{st:Step}(hx:Ao st){pg:List Int}{key:Key}(h2:pg.length<=2)(hk:key.length<=1000000):I0 (Z' st.n (r_ st.c) pg key)/\0<(Z' st.n (r_ st.c) pg key).vs.length:=by
 obtain⟨h3,h4,_⟩:=Vx hx;obtain⟨h5,h6,h7⟩:=FM hx.rt h4;have hf:=hx.rt.form;rw[hx.Uk]at hf;simp at hf;have hl:=hx.rt.len;have akP:=hx.Uk;have h8:(gV st.n (r_ st.c)).vs.length=st.n.ks.length:=by simp[gV,bh,akP];omega
 have hd:I0 (gV st.n (r_ st.c)):=⟨h6,O,O⟩;unfold Z';split
 .rename_i h9;refine⟨⟨wI h6 hk O O O,?_,?_⟩,?_⟩
  .simp[gj];omega
  .simp[gj,gV,bh,akP];omega
  .simp[gj];omega
 .exact⟨I4 hd _ _,by simp[gq];omega⟩
def afE{st:Step}{u:vV Cs}{t b:Nat}(hx:Ao st)(hu:Qu t b u):Qu (t+16) (b+2) (bM.vL st u):=by
 obtain⟨h1,h2,h4⟩:=Vx hx;have hold:=hu.old;unfold Go.cD.dG.vL;split
 .rename_i he;have hn:=hu.n he;split
  .have htl:=xj u.s (dG.qC st);have hok:=hu.s.tl (dG.qC st);unfold Go.cD.dG.Bq;split
   .rename_i hE;have hrt:Right (bM.tl u.s (dG.qC st)).2.1:=by
     rcases htl with h|h
     .exact h.2
     .unfold Go.cD.dG.XH at hE;rw[ah h.2]at hE;exact absurd hE h.2
    have Bg:=afD hx hn hrt;have RG:=Gl hok Bg;refine⟨hok.put _,by simp;omega,?_,?_⟩
    .intro e;simp only at e⊢;rw[ai e];exact(Vy hx RG.1 RG.2.2.2).1
    .intro e _;simp only at e⊢;rw[ai e];exact(Vy hx RG.1 RG.2.2.2).2
   .rename_i hE;exact⟨hok.up O,by simp;omega,λe=>absurd e hE,λe=>absurd e hE⟩
  .unfold Go.cD.dG.EH;refine⟨(hu.s.Zf u.n).up O,by simp;omega,?_,?_⟩
   .intro e;simp only at e⊢;rw[ai e];exact I4 (I3 hx.rt) _ _
   .intro e _;simp only at e⊢;rw[ai e];simp[gq];omega
 .exact⟨hu.s.up O,O,hu.n,hu.v⟩
theorem EI{t b:Nat}{u:vV Cs}(hu:Qu t b u):∀(l:List Step),(∀x∈l,Ao x)->Qu (t+16*l.length) (b+2*l.length) (l.foldr bM.vL u)
 |[],_=>by simpa using hu
 |x::l,h=>by
  have ih:=EI hu l (λy hy=>h y (by simp[hy]));have:=afE (h x H) ih;simpa[yu,ow]using this
def Qv{t:Nat}{c:Cs}(hS:lN t c){x:Step}(hx:Right x.n){i:Nat}(hi:i<x.n.ks.length):Qu t 1 ⟨c,[x.p],gV x.n i,0⟩:=by
 obtain⟨h5,h6,h7⟩:=FM hx hi;have hf:=hx.form;have hl:=hx.len;refine⟨hS,H,λ_=>⟨h6,by simp only;omega,?_⟩,λ_ h=>?_⟩
 .simp only[gV,mo,lV,yz];split at hf<;>omega
 .have hlf:x.n.lf=false:=h;rw[hlf]at hf;simp at hf;simp[gV,bh,hlf];omega
end Go.aL
namespace Go.Av
open Go.Proofs Go.Proofs.Tryz Go.aL
open Go.cD (Nd rB jU Right jv Step eI Key vV jX gq gV b_ rY BM BN Gn)
def Qy(t:Nat)(c:Cs)(h:lN t c)(ht:t<=20000)(root:Int)(hroot:lB root)(key:Key):bN 190 [.obj 20 0,.p (.str key)] ⟨iY.B 0 8 c++[(20,eJ root)],nJ 8,21⟩ (.agg true [.p (.int (bM.jk c root key).was),.p (.bool (bM.jk c root key).had),.p (.int (bM.jk c root key).e)]) ⟨iY.B 0 21 (bM.jk c root key).s++[(20,eJ (bM.jk c root key).root)],nJ 21,33⟩:=by
 refine aq [_,_,_] [69] [(15,[(4,.r 1),(6,.r 2),(8,.f [1,2]),(11,.s 1 [2])])] [(1,34),(2,48)] func190 rfl ?_;obtain⟨R,hR⟩:=mH (bM.jk c root key);rw[<-hR];unfold Go.cD.dG.jk at hR;have hw:=Tj t c h root hroot key;have hst:=λl x=>MH (c:=c) (key:=key) hroot (l:=l) (x:=x);have h1:=KV key 40 root [] h;generalize hq:bM.way key 40 c root []=q at hw h1 hR;simp only[hq]at hst;obtain⟨c1,l,e⟩:=q;simp only at hw h1 hst hR;simp[eJ];refine jf (rN 8 [20]) hw ?_;by_cases c2:¬e=0
 .have eY:(e !=0)=true:=U c2;rw[ah c2]at hR;rw[hR];simp[-az,eY,results190];exact⟨dD 21 21 [],H⟩
 have c2:=Decidable.not_not.1 c2;subst c2;rw[ai rfl]at hR;rcases uK l with rfl|⟨l,x,rfl⟩
 .simp only[FL]at hR;rw[hR];simp[-az,results190];exact⟨dD 21 21 [],H⟩
 rw[xU]at hR hst⊢;obtain⟨oO,hx,hxp,aj4⟩:=hst l x rfl;simp only[KW,BQ]at hR;obtain⟨pl,hpl⟩:=mH (l++[x]);rw[<-hpl];have SF:pl.length=l.length+1:=by rw[hpl];simp
 have hpx:pl[l.length]'O=x:=by simp[hpl]
 have hpm:∀(m:Nat) (hm:m<l.length),pl[m]'O=l[m]:=λm hm=>by simp[hpl,hm]
 have hlp:l.length<pl.length:=O;have MZ:((pl.length:Int)==0)=false:=by simp;intro hz;rw[hz]at SF;simp at SF
 have w1:IntKind.i64.wrap ((pl.length:Int)-1)=(l.length:Int):=by rw[SF,aG];omega
 have w3:IntKind.i64.wrap ((l.length:Int)-1)=(l.length:Int)-1:=aG;simp[w1,MZ,hlp,hpx];refine cm (Tk x.n key (by have:=(gD hx).ks;omega)) ?_;by_cases ch:¬rY x.n key=true
 .have ch':rY x.n key=false:=U ch;rw[ah ch]at hR;rw[hR];simp[-az,ch',results190];exact⟨dD 21 21 [],H⟩
 have ch:=Decidable.not_not.1 ch;rw[ai ch]at hR;obtain⟨KQ,hfk⟩:=BN ch;have hfv:b_ x.n key<x.n.vs.length:=by have:=hx.form;omega
 have hgx:BM x key=(x.n.vs[b_ x.n key],true):=by
  unfold BM;rw[ai ch,u6,n_ hfv];rfl
 rw[hgx]at hR;have Yf:=Qv (x:=x) h1 hx KQ;obtain⟨u0,af3⟩:∃u0:vV Cs,u0=⟨c1,[x.p],gV x.n (b_ x.n key),0⟩:=⟨_,rfl⟩;rw[<-af3]at Yf hR;have wH:=bM.af4 root x.n.vs[b_ x.n key] (l.foldr bM.vL u0);simp only at hR;rw[<-hR]at wH;obtain⟨gs,gr,ge,gw,gh⟩:=wH;simp[ch,hfv,hlp,hpx];refine cm (aew x.n (b_ x.n key) (gD hx) (sJ hx) KQ) ?_;simp[w3,hlp,hpx];refine aS (λy:Nat×vV Cs=>y.1<=l.length/\y.2=(l.drop y.1).foldr bM.vL u0/\y.2.e=0) (λy=>[(0,.obj 20 0),(7,.p (.sl (pl.map sI))),(9,.p (.int ((y.1:Int)-1))),(12,.p (.int x.n.vs[b_ x.n key])),(13,.obj 33 0),(14,.obj 34 0)]) (λy=>⟨iY.B 0 36 y.2.s++[(20,eJ root),(33,⟨341,3,[.p (.bool y.2.n.lf),.p (.sl (y.2.n.ks.map PC.str)),.p (.sl (y.2.n.vs.map PC.int))]⟩),(34,jJ 35 y.2.old)],nJ 36++[(35,3,1)],48⟩) (λy=>y.1) (l.length,u0) ⟨H,H,by rw[af3]⟩ _ (j9 34 1 3 1 ⟨339,2,[.obj 20 0,.full [.int x.p]]⟩ [.int x.p] H H) ?_ ?_
 .exact aE (dD 36 21 [(33,33),(34,34),(35,35)]) (by simp[af3])
 rintro⟨m,u⟩ ⟨g1,g2,g3⟩;simp only at g1 g2 g3;have hu:Qu (t+16*(l.length-m)) (1+2*(l.length-m)) u:=by
  rw[g2];have:=EI Yf (l.drop m) (λx hx=>oO x (fq hx));simpa using this
 have hun:=hu.n g3;have huv:=hu.v g3;have pI:=hu.s;have xS:=hu.old;cases m with
 |zero=>
  have e:l.foldr bM.vL u0=u:=by rw[g2];rfl
  rw[e]at gs gr ge gw gh;have hue:u=⟨u.s,u.old,u.n,0⟩:=by rw[<-g3]
  have Bi:=ae4 _ u.s pI O root u.old O u.n hun.sm huv (bM.mK root 0 u) (by rw[<-hue]);rw[<-gs,<-gr,<-ge]at Bi;rw[<-ge]at gw gh;simp[eJ,jJ];refine jf (rN 36 [20,34,35]) Bi ?_;by_cases c5:R.e=0
  .rw[ai c5]at gw gh;rw[gw,gh];simp[-az,c5,results190];exact⟨dD 21 48 [],H⟩
  .rw[ah c5]at gw gh;rw[gw,gh];have BP:(R.e !=0)=true:=U c5;simp[-az,BP,results190];exact⟨dD 21 48 [],H⟩
 |succ m=>
 have hm:m<l.length:=O;have hm':m<pl.length:=O;obtain⟨st,Dz⟩:=mH (l[m]);have XF:Ao st:=by rw[Dz];exact oO _ (bB hm)
 have qp:(l.drop m).foldr bM.vL u0=bM.vL st u:=by rw[eK hm,List.foldr_cons,<-g2,Dz]
 have hall:l.foldr bM.vL u0=(l.take m).foldr bM.vL (bM.vL st u):=by
  conv=>lhs;rw[<-eO m l]
  rw[List.foldr_append,qp]
 have hxm:pl[m]=st:=by rw[hpm m hm];exact Dz.symm
 have wm2:IntKind.i64.wrap ((m:Int)-1)=(m:Int)-1:=aG;have hcv:st.c<st.n.vs.length:=by have h1:=XF.rt.form;have h2:=XF.c;rw[XF.Uk]at h1;simp at h1;omega
 have hue:u=⟨u.s,u.old,u.n,0⟩:=by rw[<-g3]
 simp[hm',hxm,eJ,jJ];refine⟨O,O,?_⟩;refine cm (aks u.n) ?_;by_cases cf:Gn u.n=true
 .have hj:=aaz _ u.s pI O root u.old O st XF.rt XF.Uk XF.c u.n hun (bM.vL st u) (by unfold Go.cD.dG.vL;rw[ai g3,ai cf,<-hue]);generalize bM.vL st u=v at*;simp[cf];by_cases c3:v.e=0
  .refine jf (rN 36 [20,34,49]) hj ?_;simp[c3];exact⟨m,v,⟨O,qp.symm,c3⟩,O,aE (dD 36 50 [(33,33),(34,34),(35,62)]) (by simp[wm2])⟩
  .have mg:(v.e !=0)=true:=U c3;rw[hall,bM.C5 c3]at gs gr ge gw gh;have hfu:bM.mK root 0 v=⟨v.s,root,0,false,v.e⟩:=by unfold Go.cD.dG.mK;rw[ah c3]
   rw[hfu]at gs gr ge gw gh;simp only at gs gr ge gw gh;rw[ah c3]at gw gh;rw[gs,gr,ge,gw,gh];refine jf (rN 36 [20,34,49]) hj ?_;simp[-az,mg,results190];exact⟨dD 21 50 [],H⟩
 .have cf':Gn u.n=false:=U cf;have sx:=ZK _ u.s pI O root (u.old++[st.p]) st (gD XF.rt) hcv u.n hun.sm;have hde:bM.vL st u=bM.EH st u:=by unfold Go.cD.dG.vL;rw[ai g3,ah cf]
  unfold Go.cD.dG.EH at hde;generalize bM.sv u.s u.n=sa at*;obtain⟨S',p',e'⟩:=sa;simp only at hde sx;simp[cf'];by_cases c3:e'=0
  .subst c3;rw[ai rfl]at hde;rw[hde]at qp;refine jf (rN 36 [20,34,49]) sx ?_;simp;exact⟨m,_,⟨O,qp.symm,rfl⟩,O,aE (dD 36 50 [(33,33),(34,34),(35,49)]) (by simp[wm2])⟩
  .have mg:(e' !=0)=true:=U c3;rw[ah c3]at hde;rw[hde]at hall;rw[hall,bM.C5 (by exact c3)]at gs gr ge gw gh;have hfu:bM.mK root 0 ⟨S',u.old++[st.p],jU,e'⟩=⟨S',root,0,false,e'⟩:=by unfold Go.cD.dG.mK;rw[ah c3]
   rw[hfu]at gs gr ge gw gh;simp only at gs gr ge gw gh;rw[ah c3]at gw gh;rw[gs,gr,ge,gw,gh];refine jf (rN 36 [20,34,49]) sx ?_;simp[-az,mg,jU,results190];exact⟨dD 21 50 [],H⟩
end Go.Av
namespace Go.aL
open Go.Av
def St.fH(s:St)(l:List Int):St:={s with sl:=cn s.sl l}
def St.uv(s:St)(l:List Int):St:={s.fH l with sl:=if s.sure=true then(cn s.sl l).commit else cn s.sl l}
def pM(R:Go.cD.jX Cs)(count:Int):St×Bool×Int:=if R.e=0 then
 (if(R.s.s.commit R.root count).2.1=true then((R.s.s.commit R.root count).1.fH R.s.old,true,(R.s.s.commit R.root count).2.2)
 else((R.s.s.commit R.root count).1.uv R.s.saved,false,(R.s.s.commit R.root count).2.2))else(R.s.s.uv R.s.saved,false,R.e)
end Go.aL
namespace Go.Av
open Go.Proofs Go.Proofs.Tryz Go.aL
def aao(t:Nat)(c:Cs)(h:lN t c)(ht:t<=20000)(root:Int)(hroot:lB root)(key:aF):bN 189 [.obj 20 0,.p (.ref (.str key))] ⟨iY.B 0 8 c++[(20,eJ root)],nJ 8,21⟩ (.p (.int (bM.jk c root key).e)) ⟨iY.B 0 21 (bM.jk c root key).s++[(20,eJ (bM.jk c root key).root)],nJ 21,33⟩:=by
 have hp:=Qy t c h ht root hroot key;generalize bM.jk c root key=R at hp⊢;refine aC [_] func189 rfl ?_;simp;refine o7 hp rfl ?_;simp[-az,results189];exact⟨[],H⟩
def afP(t t2:Nat)(s:St)(h:gR t s)(count:Int)(key:aF)(R:Go.cD.jX Cs)(htu:bN 189 [.obj 20 0,.p (.ref (.str key))] ⟨iY.B 0 8 ⟨s,[],[]⟩++[(20,eJ s.root)],nJ 8,21⟩ (.p (.int R.e)) ⟨iY.B 0 21 R.s++[(20,eJ R.root)],nJ 21,33⟩)(h2:lN t2 R.s)(ht2:t2<=30000):bN 148 [.obj 6 0,.p (.int count),.p (.fn (.func 189) [.ref (.str key)])] ⟨aH 0 7 s,cH 7,17⟩ (.agg true [.p (.bool (pM R count).2.1),.p (.int (pM R count).2.2)]) ⟨aH 0 17 (pM R count).1,cH 17,27⟩:=by
 have KJ:=LN s.root;generalize hZ:pM R count=Z;unfold pM at hZ;have hro:=N9 R.s R.root;have Cb:=EM t2 R.s.s h2.s ht2 R.root count;have oO:(R.s.s.commit R.root count).1.sl=R.s.s.sl:=rfl;have DC:=h2.saved;have xS:=h2.old;have C2:=h2.s.sl;generalize hC:R.s.s.commit R.root count=C at hZ Cb oO;obtain⟨u,b,e⟩:=C;simp only at hZ Cb oO;have hgi:=tY u (by rw[oO];exact C2) R.s.old O;have hgs:=tY u (by rw[oO];exact C2) R.s.saved O;have hgr:=tY R.s.s C2 R.s.saved O;have hcu:=(jL (m:=u.sl) (by rw[oO];exact C2) R.s.saved).1;have Hq:=(jL C2 R.s.saved).1;have RT:=lX 4 45 46 47 53 (cn u.sl R.s.saved).n (by constructor<;>omega) hcu.n (cn u.sl R.s.saved).F (cn u.sl R.s.saved).R (cn u.sl R.s.saved).W hcu.F hcu.W hcu.fw;have hm2:=lX 4 35 36 37 43 (cn R.s.s.sl R.s.saved).n (by constructor<;>omega) Hq.n (cn R.s.s.sl R.s.saved).F (cn R.s.s.sl R.s.saved).R (cn R.s.s.sl R.s.saved).W Hq.F Hq.W Hq.fw;refine kQ (rs:=[_,_]) [14] [] [] func148 rfl bp bp (by simp[ntmps148]) rfl ?_;refine iF mixed [(0,.obj 6 0),(1,.p (.int count)),(2,.p (.fn (.func 189) [.ref (.str key)]))] ⟨aH 0 7 s,cH 7,17⟩ ?_ ?_
 .simp[aH,aj,ak,aR,aM,aJ,aP];exact aB H
 refine iF mixed [(0,.obj 6 0),(1,.p (.int count)),(2,.p (.fn (.func 189) [.ref (.str key)])),(8,.obj 17 0)] ⟨(17,⟨278,3,[.obj 6 0,.p .nil,.p .nil]⟩)::aH 0 7 s,cH 7,18⟩ ?_ ?_
 .simp[aH,aj,ak,aR,aM,aJ,aP];exact aB H
 refine qP (j9 17 1 3 1 ⟨278,3,[.obj 6 0,.p .nil,.p .nil]⟩ [] rfl (.inr ⟨rfl,rfl⟩)) ?_;refine qP (j9 17 2 3 1 ⟨278,3,[.obj 6 0,.own 18 [],.p .nil]⟩ [] rfl (.inr ⟨rfl,rfl⟩)) ?_;refine g_ mixed ?_;by_cases ce:R.e=0
 .rw[ai ce]at hZ;rw[ce]at htu;cases b with
  |true=>
   simp only[cr]at hZ;simp[aH,aj,ak,aR,aM,aJ,aP,Tb.aY,Tb.cC,del];refine jf [17] KJ ?_;simp;refine qi (ys:=[.obj 20 0]) [0,1,2,3,4,5,6,17,7,8,9,10,11,12,13,14,15,16,18,19,20] htu H H H (by simp[aA,iY,nj,pJ,aH,aj,ak,aR,aM,aJ,aP]) (by simp[aA]) ?_;simp[iY,nj,pJ,aH,aj,ak,aR,aM,aJ,aP];refine aD [0,1,2,3,4,5,6,17,21,22,23,24,25,26,27,28,29,30,31,32,20] hro H H (by simp[aA,iY,nj,pJ,aH,aj,ak,aR,aM,aJ,aP]) (by simp[aA]) ?_;simp[iY,nj,pJ,aH,aj,ak,aR,aM,aJ,aP];refine pR [0,1,2,3,4,5,6,21,22,23,24,25,26,27,28,29,30] Cb ?_;simp[aH,aj,ak,aR,aM,aJ,aP];refine pR [0,1,2,3,4,5,6,33,34,35,36,37,38,39,40,41,42] hgi ?_;rw[<-hZ];simp[-az,St.fH,aH,aj,ak,aR,aM,aJ,aP,results148];exact⟨[(17,43),(18,44),(19,45),(20,46),(21,47),(22,48),(23,49),(24,50),(25,51),(26,52)],by simp[Mp.commit]⟩
  |false=>
   simp only[dZ,dc]at hZ;cases cs:u.sure with
   |true=>
    simp[aH,aj,ak,aR,aM,aJ,aP,Tb.aY,Tb.cC,del];refine jf [17] KJ ?_;simp;refine qi (ys:=[.obj 20 0]) [0,1,2,3,4,5,6,17,7,8,9,10,11,12,13,14,15,16,18,19,20] htu H H H (by simp[aA,iY,nj,pJ,aH,aj,ak,aR,aM,aJ,aP]) (by simp[aA]) ?_;simp[iY,nj,pJ,aH,aj,ak,aR,aM,aJ,aP];refine aD [0,1,2,3,4,5,6,17,21,22,23,24,25,26,27,28,29,30,31,32,20] hro H H (by simp[aA,iY,nj,pJ,aH,aj,ak,aR,aM,aJ,aP]) (by simp[aA]) ?_;simp[iY,nj,pJ,aH,aj,ak,aR,aM,aJ,aP];refine pR [0,1,2,3,4,5,6,21,22,23,24,25,26,27,28,29,30] Cb ?_;simp[aH,aj,ak,aR,aM,aJ,aP];refine pR [0,1,2,3,4,5,6,33,34,35,36,37,38,39,40,41,42] hgs ?_;simp[cs,aH,aj,ak,aR,aM,aJ,aP];refine o7 RT rfl ?_;rw[<-hZ];simp[-az,cs,St.fH,St.uv,Mp.commit,aH,aj,ak,aR,aM,aJ,aP,results148];exact⟨[(17,43),(18,44),(19,53),(20,54),(21,55),(22,48),(23,49),(24,50),(25,51),(26,52)],by simp[Mp.commit]⟩
   |false=>
    simp[aH,aj,ak,aR,aM,aJ,aP,Tb.aY,Tb.cC,del];refine jf [17] KJ ?_;simp;refine qi (ys:=[.obj 20 0]) [0,1,2,3,4,5,6,17,7,8,9,10,11,12,13,14,15,16,18,19,20] htu H H H (by simp[aA,iY,nj,pJ,aH,aj,ak,aR,aM,aJ,aP]) (by simp[aA]) ?_;simp[iY,nj,pJ,aH,aj,ak,aR,aM,aJ,aP];refine aD [0,1,2,3,4,5,6,17,21,22,23,24,25,26,27,28,29,30,31,32,20] hro H H (by simp[aA,iY,nj,pJ,aH,aj,ak,aR,aM,aJ,aP]) (by simp[aA]) ?_;simp[iY,nj,pJ,aH,aj,ak,aR,aM,aJ,aP];refine pR [0,1,2,3,4,5,6,21,22,23,24,25,26,27,28,29,30] Cb ?_;simp[aH,aj,ak,aR,aM,aJ,aP];refine pR [0,1,2,3,4,5,6,33,34,35,36,37,38,39,40,41,42] hgs ?_;rw[<-hZ];simp[-az,cs,St.fH,St.uv,aH,aj,ak,aR,aM,aJ,aP,results148];exact⟨[(17,43),(18,44),(19,45),(20,46),(21,47),(22,48),(23,49),(24,50),(25,51),(26,52)],by simp[Mp.commit]⟩
 .rw[ah ce]at hZ;have Ya:(R.e==0)=false:=U ce;cases cs:R.s.s.sure with
  |true=>
   simp[aH,aj,ak,aR,aM,aJ,aP,Tb.aY,Tb.cC,del];refine jf [17] KJ ?_;simp;refine qi (ys:=[.obj 20 0]) [0,1,2,3,4,5,6,17,7,8,9,10,11,12,13,14,15,16,18,19,20] htu H H H (by simp[aA,iY,nj,pJ,aH,aj,ak,aR,aM,aJ,aP]) (by simp[aA]) ?_;simp[Ya,iY,nj,pJ,aH,aj,ak,aR,aM,aJ,aP];refine pR [0,1,2,3,4,5,6,21,22,23,24,25,26,27,28,29,30] hgr ?_;simp[cs,aH,aj,ak,aR,aM,aJ,aP];refine o7 hm2 rfl ?_;rw[<-hZ];simp[-az,cs,St.fH,St.uv,Mp.commit,aH,aj,ak,aR,aM,aJ,aP,results148];exact⟨[(17,33),(18,34),(19,43),(20,44),(21,45),(22,38),(23,39),(24,40),(25,41),(26,42)],by simp[Mp.commit]⟩
  |false=>
   simp[aH,aj,ak,aR,aM,aJ,aP,Tb.aY,Tb.cC,del];refine jf [17] KJ ?_;simp;refine qi (ys:=[.obj 20 0]) [0,1,2,3,4,5,6,17,7,8,9,10,11,12,13,14,15,16,18,19,20] htu H H H (by simp[aA,iY,nj,pJ,aH,aj,ak,aR,aM,aJ,aP]) (by simp[aA]) ?_;simp[Ya,iY,nj,pJ,aH,aj,ak,aR,aM,aJ,aP];refine pR [0,1,2,3,4,5,6,21,22,23,24,25,26,27,28,29,30] hgr ?_;rw[<-hZ];simp[-az,cs,St.fH,St.uv,aH,aj,ak,aR,aM,aJ,aP,results148];exact⟨[(17,33),(18,34),(19,35),(20,36),(21,37),(22,38),(23,39),(24,40),(25,41),(26,42)],by simp[Mp.commit]⟩
@[reducible]def DW(key:aF):Ob:=⟨9,1,[.p (.str key)]⟩
@[reducible]def Uy(k:Kn):Ob:=⟨159,4,[.p (.str k.key),.p (.int k.order),.p (.int k.place),.p (.sl (k.body.map dO))]⟩
def Uz(t:Nat)(c:Cs)(h:lN t c)(ht:t<=20000)(root:Int)(hroot:lB root)(key:aF)(k:Kn)(ye:key.length<=1000000):bN 149 [.obj 20 0,.obj 21 0,.obj 22 0] ⟨iY.B 0 8 c++[(20,eJ root),(21,DW key),(22,Uy k)],nJ 8,23⟩ (.p (.int (bM.jm c root key k.place).e)) ⟨iY.B 0 23 (bM.jm c root key k.place).s++[(20,eJ (bM.jm c root key k.place).root),(21,DW key),(22,Uy k)],nJ 23,35⟩:=by
 have hp:=aev t c h ht root hroot key k.place ye;generalize bM.jm c root key k.place=R at hp⊢;refine aC [_] func149 rfl ?_;simp;refine jf (rN 8 [20]) hp ?_;simp[-az,results149];exact⟨[],H⟩
end Go.Av
namespace Go.Av
open Go.Proofs Go.aL
end Go.Av
namespace Go.aL
open Go.Av
end Go.aL
namespace Go.Av
open Go.Proofs Go.aL
end Go.Av
namespace Go.Av
open Go.RowKit
def Nz{iM:Nat}{st:AS}(o j d n s:Nat)(m:Option Nat)(ob od:Ob)(ys:List PC)(hlo:lk o st.tb.bx=some ob)(hj:ob.xs[j]?=some (.view d 0 n s m))(hod:¬o=d)(hl:lk d st.tb.bx=some od)(hsz:od.sz=s)(hs:0<s)(hx:n*s<=od.xs.length)(hc:od.xs.take (n*s)=ys.flatMap bA)(hy:ys.length=n)(hw':∀y∈ys,y.width=s)(ht:∀y∈ys,cE y=true):st.le iM ⟨st.sl,(⟨(st.tb.cV d).bx,st.tb.rw,st.tb.nx+1⟩:Tb).aY o {ob with xs:=ob.xs.set j (.p (.sl ys))}⟩:=by
 rintro fr a w hf ⟨g,h0,h1,h2,h3,h4⟩;obtain⟨b,c,f1,frl,f0⟩:=h1.boxes o ob hlo;have CF:ob.xs≠[]:=λhz=>by rw[hz]at hj;simp at hj
 have iQ:0<c:=qZ λhz=>CF (f0 hz);obtain⟨cur,f2,f3,⟨tt,fz,f4,fo⟩,f5,f6,f7,f8,f9⟩:=frl iQ;obtain⟨u,hu,hr⟩:=f8.get hj;obtain⟨g',k1,k2,k3⟩:=NP hl hsz hs hx hc hy hw' ht _ _ _ g w u h1 hr;have aoK:lk o (⟨(st.tb.cV d).bx,st.tb.rw,st.tb.nx+1⟩:Tb).bx=some ob:=by
  simp only[Tb.cV,cQ];rw[ah (by first|exact hod|exact λh=>hod h.symm)];exact hlo
 have key:=k2.aY (o':={ob with xs:=ob.xs.set j (.p (.sl ys))}) (cur':=cur) aoK (k1.ob _ _ f1) iQ f4 rfl rfl rfl (U f7) (by
  simp only[vh];exact tV j _ hu (f8.mono k1) k3) (U f9)
 have hw:w.setRow b cur=w:=setRow_self f4;rw[hw]at key;exact⟨g',h0.trans k1,key,λt=>(h2 t).mono k1,h3,h4⟩
end Go.Av
namespace Go.Av
open Go.Proofs Go.aL
def AL(l:eL):(l.map dO).flatMap bA=(xR l).map AV.p:=by
 induction l with
 |nil=>rfl
 |cons x l ih=>rw[dB,cU,ih];rfl
end Go.Av
namespace Go.Av
open Go.Proofs Go.Proofs.Tryz Go.aL
def alK(nx k:Nat)(hb:k<=4000000000000):bN 279 [.p .nil,.p (.int k)] ⟨[],[],nx⟩ (.view nx 0 0 2 none) ⟨[(nx,⟨157,2,[]⟩)],[],nx+1⟩:=by
 have w1:IntKind.i64.wrap (k:Int)=k:=aG;by_cases h0:k=0
 .subst h0;refine eT (r:= .p .nil) (a_:=⟨[],[],nx⟩) (el:=157) (s:=2) ?_ trivial;refine aq [_] [22] [] [] func279 rfl ?_;have z:IntKind.i64.wrap 0=0:=aG;simp[results279,z];exact⟨[],H⟩
 .have e0:0<k:=O;have z:IntKind.i64.wrap 0=0:=aG;refine aq [_] [22] [] [] func279 rfl ?_;simp[results279,w1,z,e0];exact⟨O,O,[],H⟩
def ag0(l:eL):(l.map dO).flatMap fM=xR l:=by
 induction l with
 |nil=>rfl
 |cons x l ih=>rw[dB,cU,ih];rfl
def L3(L:List (eL)):PC:= .sl (L.map λl=> .sl (l.map dO))
def alL(l:eL):∀x∈l.map dO,cE x=true:=by intro y hy;obtain⟨x,_,rfl⟩:=bE.1 hy;rfl
def QW(nx:Nat)(L:List (eL))(hb:(L.map List.length).sum<=1000000000000)(oK:L.length<=1000000000000):bN 198 [.p (L3 L)] ⟨[],[],nx⟩ (.view nx 0 L.flatten.length 2 none) ⟨[(nx,eF L.flatten)],[],nx+1⟩:=by
 have arh:L.flatten.length=(L.map List.length).sum:=je;refine aC [_] func198 rfl ?_;unfold L3;simp;refine bI (λk:Nat=>k<=L.length) (λk=>[(0,.p (L3 L)),(2,.p .nil),(9,.p (L3 L)),(10,.p (.int L.length)),(3,.p (.int ((L.map List.length).take k).sum)),(11,.p (.int k))]) (λk=>L.length-k) 0 H (aB (by simp[L3])) ?_;intro k hk;by_cases c1:k<L.length
 .have hs:((L.map List.length).take (k+1)).sum=((L.map List.length).take k).sum+L[k].length:=by
   rw[dS (U c1)];simp
  have DS:=eD (L.map List.length) (k+1);have w1:IntKind.i64.wrap ((((L.map List.length).take k).sum:Int)+(L[k].length:Int))=(((L.map List.length).take (k+1)).sum:Int):=by rw[hs];push_cast;exact aG
  have w2:=ju k;simp[L3,c1,w1,w2];refine⟨k+1,O,O,aB ?_⟩;simp[L3]
 .have hk':(L.map List.length).take k=L.map List.length:=gv (by simp;omega);simp[L3,c1,hk'];refine aN (alK nx (L.map List.length).sum O) H trivial trivial rfl ?_;simp;refine aS (λk:Nat=>k<=L.length) (λk=>[(0,.p (L3 L)),(2,.p .nil),(25,.p (L3 L)),(26,.p (.int L.length)),(6,.view nx 0 (L.take k).flatten.length 2 none),(27,.p (.int k))]) (λk=>⟨[(nx,eF (L.take k).flatten)],[],nx+1⟩) (λk=>L.length-k) 0 H _ (AS.le_refl _ _) (aB (by simp[L3,eF,xR])) ?_;clear hk c1 hk' k;intro k hk;by_cases c1:k<L.length
  .have w2:=ju k;have hfl:(L.take (k+1)).flatten=(L.take k).flatten++L[k]:=by rw[dS c1];simp only[vg,jz,qW,gL]
   have hle:(L.take (k+1)).flatten.length<=1000000000000:=by
    rw[je,fG];exact cT (eD (L.map List.length) (k+1)) hb
   rw[hfl,mo]at hle;have kW:(xR (L.take k).flatten).length=(L.take k).flatten.length*2:=Zb _;have An:List.take ((L.take k).flatten.length*2) ((xR (L.take k).flatten).map AV.p)=(xR (L.take k).flatten).map AV.p:=gv H;have hcc:(L[k].map dO).flatMap bA=(xR L[k]).map AV.p:=AL _;simp[L3,eF,c1,w2];have hls:(L.take k).flatten.length=(List.take k (List.map List.length L)).sum:=by rw[je,fG]
   rw[hls]at hle An;refine⟨by rintro y a b _ rfl;rfl,by rintro y a b _ rfl;rfl,O,O,k+1,O,O,aE [(nx,nx+1)] ?_⟩;have hs:((L.map List.length).take (k+1)).sum=((L.map List.length).take k).sum+L[k].length:=by
    rw[dS (U c1)];simp
   have hps:=ag0 L[k];rw[hfl];simp[L3,eF,An,qH,hps,hs]
  .have T8:k=L.length:=O;subst T8;simp[L3,eF,results198];exact⟨[],H⟩
def ag1(bx:List (Nat×Ob))(k id:Nat)(l:eL)(h:lk id bx=some (eF l)):dA bx (k+1) (.view id 0 l.length 2 none) (.sl (l.map dO)):=by
 refine⟨_,h,O,H,by simp[eF],?_,λy hy=>?_,alL l⟩
 .rw[AL];simp only[sQ,jx,eF];exact gv H
 .obtain⟨x,_,rfl⟩:=bE.1 hy;rfl
def L4(L:List (eL))(hb:(L.map List.length).sum<=1000000000000)(oK:L.length<=1000000000000):cq 198 [L3 L] (.sl (L.flatten.map dO)):=bF (xs:=[_]) (QW 0 L hb oK) (ag1 _ 0 0 _ (by simp[lk]))
def _root_.Go.aL.Kn.exts(k:Kn):eL:=k.gP::k.body
def Cu(k:Kn)(hk:KH k):cq 107 [Pt k] (.sl (k.exts.map dO)):=by
 have hr:=Ct k hk.place;have uk:=hk.bl;have hc:=L4 [[k.gP],k.body] (by simp;omega) H;have e:[[k.gP],k.body].flatten=k.exts:=by simp[Kn.exts]
 rw[e]at hc;refine ay [_] func107 rfl ?_;simp;refine aZ hr ?_;simp;refine aZ hc ?_;simp[results107]
end Go.Av
