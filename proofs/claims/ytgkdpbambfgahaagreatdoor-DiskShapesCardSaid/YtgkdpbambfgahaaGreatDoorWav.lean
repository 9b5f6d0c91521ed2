/- DiskShapes, part 22: what functions compute, and its plain law; no condition. -/
import Derived.Test.YtgkdpbambfgahaaGreatDoorWau
set_option linter.all false
set_option maxRecDepth 100000
set_option maxHeartbeats 64000000
namespace Go.Av
open Go.Proofs Go.Proofs.Tryz Go.aT
open Go.cC (Nd rB nZ Right lC Step dy Key)
@[reducible]def yq(x:Step):PC:= .agg false [.bool x.n.lf,.sl (x.n.ks.map PC.str),.sl (x.n.vs.map PC.int),.int x.p,.int x.c]
theorem pZ(c:Cs)(p:Int):((bA.tl c p).2.2=0/\Right (bA.tl c p).2.1)\/(bA.tl c p).2.1=nZ/\(bA.tl c p).2.2≠0:=by
 unfold Go.cC.eu.tl;by_cases h:(bA.ld c p).2.2=0
 ·rw[if_pos h];by_cases h2:rB (bA.ld c p).2.1=true
  ·rw[if_pos h2];exact .inl ⟨rfl,(lC _).1 h2⟩
  ·rw[if_neg h2];right;simp
 ·rw[if_neg h];exact .inr ⟨rfl,h⟩
theorem MC{t:Nat}(key:Key):∀(f:Nat) {c:Cs} (page:Int) (out:List Step),fL t c->fL t (bA.way key f c page out).1
 |0,c,page,out,h=>by unfold Go.cC.eu.way;split<;>exact h
 |f+1,c,page,out,h=>by
  unfold Go.cC.eu.way;split
  ·exact h
  ·split
   ·split
    ·exact h.tl page
    ·exact MC key f _ _ (h.tl page)
   ·exact h.tl page
theorem Wq(t:Nat)(c:Cs)(h:fL t c)(root:Int)(hroot:lD root)(key:Key):aE prog 238 [.obj 20 0,.p (.str key)] ⟨kg.B 0 8 c++[(20,cI root)],kY 8,21⟩ (.agg true [.p (.sl ((bA.way key 40 c root []).2.1.map yq)),.p (.int (bA.way key 40 c root []).2.2)]) ⟨kg.B 0 21 (bA.way key 40 c root []).1++[(20,cI root)],kY 21,33⟩:=by
 obtain⟨Z,hZ⟩:∃Z,bA.way key 40 c root []=Z:=⟨_,rfl⟩;rw[hZ];refine ah (rs:=[_,_]) [] [(9,[(0,.r 1),(2,.r 1),(6,.w [1]),(7,.s 2 [1])])] [(1,46),(2,47)] func238 rfl ?_;simp[cI];refine aL (fun y:Cs×Int×Nat×List Step=>bA.way key y.2.2.1 y.1 y.2.1 y.2.2.2=Z/\y.2.2.1+y.2.2.2.length=40/\lD y.2.1/\fL t y.1) (fun y=>[(0,.obj 20 0),(1,.p (.str key)),(6,.own 33 (y.2.2.2.map yq)),(7,.p (.int y.2.1))]) (fun y=>⟨kg.B 0 21 y.1++[(20,cI root)],kY 21++[(33,343,5)],34⟩) (fun y=>y.2.2.1) (c,root,40,[]) ⟨hZ,rfl,hroot,h⟩ _ (yJ 6 343 5 [] (.inr ⟨rfl,by simp⟩)) (aB (cL 21 8 [(33,21)]) (by simp)) ?_;rintro⟨c1,page,f,out⟩ ⟨g1,g2,g3,g4⟩;simp only at g1 g2 g3 g4;by_cases c0:page=0
 ·subst c0;have e:bA.way key f c1 0 out=(c1,out,0):=by unfold Go.cC.eu.way;cases f<;>rfl
  rw[e]at g1;simp[-az,<-g1,results238];exact⟨cL 21 21 [],by simp⟩
 have QI:(page !=0)=true:=by simpa using c0
 cases f with
 |zero=>
  have e:bA.way key 0 c1 page out=(c1,[],10):=by unfold Go.cC.eu.way;rw[if_neg c0]
  rw[e]at g1;have c2:(40:Int)<=(out.length:Int):=by omega
  simp[-az,QI,c2,<-g1,results238];exact⟨cL 21 21 [],by simp⟩
 |succ f=>
  have c2:¬(40:Int)<=(out.length:Int):=by omega
  have hl:=xw t c1 g4 root page g3;have hcs:=pZ c1 page;have hok:=g4.tl page;unfold Go.cC.eu.way at g1;rw[if_neg c0]at g1;obtain⟨R,hR⟩:∃R,bA.tl c1 page=R:=⟨_,rfl⟩;rw[hR]at hl hcs g1 hok;obtain⟨c',n,e⟩:=R;simp only at hl hcs g1 hok;simp[QI,c2];refine jI (rI 21 [20]) hl ?_;rcases hcs with⟨rfl,d2⟩|⟨rfl,d2⟩
  ·rw[if_pos rfl]at g1;simp;refine bJ (NL n key (by have:=d2.len;omega)) ?_;have iB:=Go.cC.oD n key;have h4:=d2.len;have hfm:=d2.form;by_cases c3:n.lf=true
   ·rw[if_pos c3]at g1;simp[-az,c3,<-g1,results238];exact⟨by omega,by omega,cL 21 34 [],by simp[c3]⟩
   ·have j_:n.lf=false:=by simpa using c3
    rw[if_neg c3]at g1;rw[j_]at hfm;simp only[Bool.false_eq_true,if_false]at hfm;have hci:dy n key<n.vs.length:=by omega
    have p_:=d2.vals n.vs[dy n key] (List.getElem_mem hci);have hgd:n.vs.getD (dy n key) 0=n.vs[dy n key]:=by rw[pR,kq hci];rfl
    rw[hgd]at g1;simp[j_,hci];exact⟨by omega,by omega,c',n.vs[dy n key],f,out++[⟨n,page,dy n key⟩],⟨g1,by simp;omega,⟨by have:=p_.1;omega,by have:=p_.2;omega⟩,hok⟩,by omega,aB (cL 21 34 [(33,48)]) (by simp[j_])⟩
  ·rw[if_neg d2]at g1;have d3':(e !=0)=true:=by simpa using d2
   simp[-az,d3',<-g1,results238];exact⟨cL 21 34 [],by simp⟩
end Go.Av
namespace Go.aT
open Go.Av
open Go.cC (Nd rB nZ gS lG sy Key)
theorem fL.WX{t:Nat}{c:Cs}(h:fL t c)(n:Nd):fL (t+8) (bA.sv c n).1:=h.sv n
theorem fL.put{t:Nat}{c:Cs}(h:fL t c)(n:Nd):fL (t+16) (bA.put c n).1:=by
 unfold Go.cC.eu.put;split
 ·exact(h.WX n).up (by omega)
 ·split
  ·exact((h.WX (gS n)).WX (lG n)).up (by omega)
  ·exact(h.WX (gS n)).up (by omega)
theorem Gp{t:Nat}{c:Cs}(h:fL t c):∀(l:List Int),fL (t+l.length) (bA.iJ c l):=by
 intro l
 induction l generalizing t c with
 |nil=>exact h
 |cons p l ih=>
  have:=ih (h.dr p);rw[show t+(p::l).length=t+1+l.length by simp;omega];exact this
end Go.aT
namespace Go.Av
open Go.Proofs Go.Proofs.Tryz Go.aT
open Go.cC (Nd rB nZ Right lC Step dy Key gS lG sy)
@[reducible]def oU(q:Nat)(old:List Int):Ob:=⟨339,2,[.obj 20 0,.own q (old.map PC.int)]⟩
theorem tV(t:Nat)(c:Cs)(h:fL t c)(ht:t<=30000)(n:Nd)(hn:nS n):aE prog 429 [.obj 7 0,.p (zW n)] ⟨kg.B 0 8 c,kY 8,20⟩ (.agg true [.p (.int (bA.sv c n).2.1),.p (.int (bA.sv c n).2.2)]) ⟨kg.B 0 20 (bA.sv c n).1,kY 20,32⟩:=SK t c h ht n (by have:=hn.ks;omega) (by have:=hn.vs;omega)
theorem Og(t:Nat)(c:Cs)(h:fL t c)(ht:t<=30000)(p:Int):aE prog 427 [.obj 7 0,.p (.int p)] ⟨kg.B 0 8 c,kY 8,20⟩ (.agg true []) ⟨kg.B 0 20 (bA.dr c p),kY 20,32⟩:=Rr t c h ht p
theorem yu(t:Nat)(c:Cs)(h:fL t c)(ht:t+8<=30000)(root:Int)(old:List Int)(n:Nd)(hn:nS n):aE prog 241 [.obj 21 0,.p (zW n)] ⟨kg.B 0 8 c++[(20,cI root),(21,oU 22 old)],kY 8++[(22,3,1)],23⟩ (.agg true [.p (.sl ((bA.put c n).2.1.map PC.int)),.p (.str (bA.put c n).2.2.1),.p (.int (bA.put c n).2.2.2)]) ⟨kg.B 0 23 (bA.put c n).1++[(20,cI root),(21,oU 22 old)],kY 23++[(22,3,1)],35⟩:=by
 obtain⟨Z,hZ⟩:∃Z,bA.put c n=Z:=⟨_,rfl⟩;rw[hZ];unfold Go.cC.eu.put at hZ;refine ah (rs:=[_,_,_]) [] [(2,[(3,.r 1),(6,.r 2),(8,.w [1,2])]),(5,[(3,.r 1),(6,.r 2),(7,.r 3),(8,.w [1,2,3,4])]),(8,[(3,.r 1),(6,.r 2),(7,.r 4),(8,.w [1,2,3,4])])] [(1,21),(2,20),(3,23),(4,24)] func241 rfl ?_;by_cases c1:n.ks.length<=4
 ·rw[if_pos c1]at hZ;have hs:=tV t c h (by omega) n hn;obtain⟨R,hR⟩:∃R,bA.sv c n=R:=⟨_,rfl⟩;rw[hR]at hs hZ;have iP:(n.ks.length:Int)<=4:=by omega
  simp[cI,oU,iP,H7];refine mK (rI 8 []) hs (by simp) (by simp) (by simp) (by simp) ?_;rw[<-hZ];simp[-az,results241];exact⟨[],by simp⟩
 ·rw[if_neg c1]at hZ;have iP:¬(n.ks.length:Int)<=4:=by omega
  have hs:=tV t c h (by omega) (gS n) (Sg hn);have hok:=h.WX (gS n);have hsp:=splitB n hn (by omega);obtain⟨R,hR⟩:∃R,bA.sv c (gS n)=R:=⟨_,rfl⟩;rw[hR]at hs hZ hok;obtain⟨c',p,e⟩:=R;simp only at hs hZ hok;simp[cI,oU,iP];refine bS hsp ?_;simp[H7];refine mK (rI 8 []) hs (by simp) (by simp) (by simp) (by simp) ?_;by_cases c2:e=0
  ·subst c2;rw[if_pos rfl]at hZ;have vT:=tV (t+8) c' hok ht (lG n) (Sh hn);obtain⟨R2,AK⟩:∃R2,bA.sv c' (lG n)=R2:=⟨_,rfl⟩;rw[AK]at vT hZ;obtain⟨c'',p2,e2⟩:=R2;simp only at vT hZ;simp[H7];refine mK (rI 25 []) vT (by simp) (by simp) (by simp) (by simp) ?_;rw[<-hZ];simp[-az,results241];exact⟨cL 23 37 [],by simp⟩
  ·rw[if_neg c2]at hZ;have dM:(e !=0)=true:=by simpa using c2
   rw[<-hZ];simp[-az,dM,results241];exact⟨cL 23 25 [],by simp⟩
theorem H8(t:Nat)(c:Cs)(h:fL t c)(root:Int)(old:List Int)(zX:old.length<=1000)(ht:t+1000<=30000)(p:Int):aE prog 328 [.obj 21 0,.p (.int p)] ⟨kg.B 0 8 c++[(20,cI root),(21,oU 22 old)],kY 8++[(22,3,1)],23⟩ (.agg true []) ⟨kg.B 0 23 (bA.iJ c old)++[(20,cI p),(21,oU 22 old)],kY 23++[(22,3,1)],35⟩:=by
 refine ah (rs:=[]) [] [] [] func328 rfl ?_;simp[cI,oU];refine aL (fun k:Nat=>k<=old.length) (fun k=>[(0,.obj 21 0),(16,.own 22 (old.map PC.int)),(17,.p (.int old.length)),(18,.p (.int k))]) (fun k=>⟨kg.B 0 23 (bA.iJ c (old.take k))++[(20,cI p),(21,oU 22 old)],kY 23++[(22,3,1)],35⟩) (fun k=>old.length-k) 0 (by simp) _ (AS.le_refl _ _) (aB (cL 23 8 []) (by simp[Go.cC.eu.iJ])) ?_;intro k hk;by_cases ck:k<old.length
 ·have wk:=jq k;have hd:=Gp h (old.take k);have hdr:=Og _ _ hd (by simp;omega) old[k];have WN:bA.dr (bA.iJ c (old.take k)) old[k]=bA.iJ c (old.take (k+1)):=by unfold Go.cC.eu.iJ;rw[iA ck,List.foldl_append];rfl
  rw[WN]at hdr;simp[ck,cI,oU,adQ];refine mK (rI 23 []) hdr (by simp) (by simp) (by simp) (by simp) ?_;simp[wk];exact⟨k+1,by omega,by omega,aB (cL 23 35 []) (by simp)⟩
 ·obtain rfl:k=old.length:=by omega
  simp[-az,cI,oU,results328];exact⟨cL 23 23 [],by simp⟩
end Go.Av
namespace Go.aT
open Go.Av
open Go.cC (Nd rB nZ gS lG sy Key C8 BX gC lY Step)
theorem Gh{t:Nat}{c:Cs}(h:fL t c)(n:Nd):lD (bA.sv c n).2.1:=by
 show lD (c.sv n).2.1;unfold Cs.sv;split
 ·split
  ·obtain⟨m1,m2,m3,m4,m5⟩:=h.s.sl.take 1;have:=h.s.sl.n;exact⟨by simp only;omega,by simp only;omega⟩
  ·simp[lD]
 ·simp[lD]
theorem NG{t:Nat}{c:Cs}(h:fL t c){n:Nd}(hn:nS n):(bA.put c n).2.1.length<=2/\((bA.put c n).2.2.2=0->1<=(bA.put c n).2.1.length)/\(∀p∈(bA.put c n).2.1,lD p)/\(bA.put c n).2.2.1.length<=1000000:=by
 unfold Go.cC.eu.put;have h1:=Gh h n;have h2:=Gh h (gS n);have h3:=Gh (h.WX (gS n)) (lG n);split
 ·exact⟨by simp,by simp,by simpa using h1,by simp⟩
 ·split
  ·refine⟨by simp,by simp,by simp[h2,h3],?_⟩;simp only[sy];split
   ·unfold Go.cC.oy;rcases Nat.lt_or_ge (n.ks.length/2) n.ks.length with h4|h4
    ·rw[pR,kq h4];exact hn.keys _ (List.getElem_mem h4)
    ·rw[pR,List.getElem?_eq_none h4];simp
   ·simp
  ·rename_i h4;exact⟨by simp,fun h=>absurd h h4,by simp,by simp⟩
structure UM(t b:Nat)(u:C8 Cs):Prop where
 s:fL t u.s
 old:u.old.length<=b
 pg:u.pg.length<=2/\(u.e=0->1<=u.pg.length)
 pgb:∀p∈u.pg,lD p
 key:u.key.length<=1000000
theorem Co{x:Step}{u:C8 Cs}{t b:Nat}(hx:JY x)(hu:UM t b u):nS (BX x u.pg u.key):=by
 have h:=k8 hx.rt;have h1:=hx.rt.len;have h2:=hx.rt.form;unfold BX;split
 ·exact xE h hu.key (by omega) (by rw[h2];split<;>omega) (by have:=hu.pg;omega)
 ·exact⟨h.ks,by simp[lY];exact h.vs,h.keys⟩
theorem Sf{x:Step}{u:C8 Cs}{t b:Nat}(hx:JY x)(hu:UM t b u):UM (t+16) (b+1) (bA.sU x u):=by
 unfold Go.cC.eu.sU;split
 ·have hn:=Co hx hu;obtain⟨p1,p2,p3,p4⟩:=NG hu.s hn;exact⟨hu.s.put _,by simp;have:=hu.old;omega,⟨p1,p2⟩,p3,p4⟩
 ·exact⟨hu.s.up (by omega),by have:=hu.old;omega,hu.pg,hu.pgb,hu.key⟩
theorem A6{t b:Nat}{u:C8 Cs}(hu:UM t b u):∀(l:List Step),(∀x∈l,JY x)->UM (t+16*l.length) (b+l.length) (l.foldr bA.sU u)
 |[],_=>by simpa using hu
 |x::l,h=>by
  have:=Sf (h x (by simp)) (A6 hu l (fun y hy=>h y (by simp[hy])));simpa[Nat.mul_add,Nat.add_assoc]using this
theorem kJ{u:C8 Cs}(h:u.e≠0):∀(l:List Step),l.foldr bA.sU u=u
 |[]=>rfl
 |x::l=>by simp only[List.foldr_cons,kJ h l];unfold Go.cC.eu.sU;rw[if_neg h]
end Go.aT
namespace Go.Av
open Go.Proofs Go.Proofs.Tryz Go.aT
open Go.cC (Nd rB nZ Right lC Step dy Key gS lG sy C8 BX gC lY)
theorem ME(t b:Nat)(root:Int)(u0:C8 Cs)(h0:UM t b u0)(he:u0.e=0)(l:List Step)(hl:∀x∈l,JY x)(aiK:l.length<=100)(hb:b<=100)(ht:t<=25000):aE prog 243 [.obj 21 0,.p (.sl (l.map yq)),.p (.sl (u0.pg.map PC.int)),.p (.str u0.key)] ⟨kg.B 0 8 u0.s++[(20,cI root),(21,oU 22 u0.old)],kY 8++[(22,3,1)],23⟩ (.p (.int (bA.gD root 0 false (l.foldr bA.sU u0)).e)) ⟨kg.B 0 23 (bA.gD root 0 false (l.foldr bA.sU u0)).s++[(20,cI (bA.gD root 0 false (l.foldr bA.sU u0)).root),(21,oU 35 (l.foldr bA.sU u0).old)],kY 23++[(35,3,1)],36⟩:=by
 obtain⟨Z,hZ⟩:∃Z,bA.gD root 0 false (l.foldr bA.sU u0)=Z:=⟨_,rfl⟩;obtain⟨ol,Gi⟩:∃ol,(l.foldr bA.sU u0).old=ol:=⟨_,rfl⟩;rw[hZ,Gi];refine ah (rs:=[_]) [] [(5,[(4,.r 1),(6,.r 2),(8,.f [1,2]),(11,.s 1 [2])]),(9,[(0,.r 3),(2,.r 2),(7,.w [])])] [(1,21),(2,36),(3,38)] func243 rfl ?_;have wl:IntKind.i64.wrap ((l.length:Int)-1)=(l.length:Int)-1:=aD;simp[cI,oU,wl];refine aL (fun y:Nat×C8 Cs=>y.1<=l.length/\y.2=(l.drop y.1).foldr bA.sU u0/\y.2.e=0) (fun y=>[(0,.obj 21 0),(1,.p (.sl (l.map yq))),(2,.p (.sl (y.2.pg.map PC.int))),(3,.p (.str y.2.key)),(9,.p (.int ((y.1:Int)-1)))]) (fun y=>⟨kg.B 0 23 y.2.s++[(20,cI root),(21,oU 35 y.2.old)],kY 23++[(35,3,1)],36⟩) (fun y=>y.1) (l.length,u0) ⟨by simp,by simp,he⟩ _ (AS.le_refl _ _) (aB (cL 23 8 [(35,22)]) (by simp)) ?_;rintro⟨m,u⟩ ⟨g1,g2,g3⟩;simp only at g1 g2 g3;have hu:UM (t+16*(l.length-m)) (b+(l.length-m)) u:=by
  rw[g2];have:=A6 h0 (l.drop m) (fun x hx=>hl x (List.mem_of_mem_drop hx));simpa using this
 cases m with
 |zero=>
  have e:l.foldr bA.sU u0=u:=by rw[g2];rfl
  rw[e]at hZ Gi;subst Gi;have zX:=hu.old;have hpl:=hu.pg.1;have hp0:0<u.pg.length:=hu.pg.2 g3;unfold Go.cC.eu.gD at hZ;rw[if_pos g3]at hZ;by_cases c2:u.pg.length=2
  ·rw[if_pos c2]at hZ;have dM:((u.pg.length:Int)==2)=true:=by simp;omega
   have hsm:nS ⟨false,[u.key],u.pg⟩:=⟨by simp,by simp;omega,by simpa using hu.key⟩;have hs:=tV _ u.s hu.s (by omega) ⟨false,[u.key],u.pg⟩ hsm;have NH:=hu.s.WX ⟨false,[u.key],u.pg⟩;obtain⟨R,hR⟩:∃R,bA.sv u.s ⟨false,[u.key],u.pg⟩=R:=⟨_,rfl⟩;rw[hR]at hs hZ NH;obtain⟨S1,p1,e1⟩:=R;simp only at hs hZ NH;simp[dM,cI,oU,H7];refine mK (rI 23 []) hs (by simp) (by simp) (by simp) (by simp) ?_;by_cases c3:e1=0
   ·subst c3;rw[if_pos rfl]at hZ;have hd:=H8 _ S1 NH root u.old (by omega) (by omega) p1;simp;refine jI (rI 36 [20,21,35]) hd ?_;rw[<-hZ];simp[-az,results243];exact⟨cL 23 48 [],by simp⟩
   ·rw[if_neg c3]at hZ;have j_:(e1 !=0)=true:=by simpa using c3
    rw[<-hZ];simp[-az,j_,results243];exact⟨cL 23 36 [],by simp⟩
  ·rw[if_neg c2]at hZ;have dM:((u.pg.length:Int)==2)=false:=by simp;omega
   have hgd:u.pg.getD 0 0=u.pg[0]:=by rw[pR,kq hp0];rfl
   rw[hgd]at hZ;have hd:=H8 _ u.s hu.s root u.old (by omega) (by omega) u.pg[0];simp[dM,hp0,cI,oU];refine jI (rI 23 [20,21,35]) hd ?_;rw[<-hZ];simp[-az,results243];exact⟨cL 23 36 [],by simp⟩
 |succ m=>
 have hm:m<l.length:=by omega
 obtain⟨x,NJ⟩:∃x,x=l[m]:=⟨_,rfl⟩;have hx:JY x:=by rw[NJ];exact hl _ (List.getElem_mem hm)
 have FF:(l.drop m).foldr bA.sU u0=bA.sU x u:=by rw[List.drop_eq_getElem_cons hm,List.foldr_cons,<-g2,NJ]
 have hall:l.foldr bA.sU u0=(l.take m).foldr bA.sU (bA.sU x u):=by
  conv=>lhs;rw[<-List.take_append_drop m l]
  rw[List.foldr_append,FF]
 have hp0:0<u.pg.length:=hu.pg.2 g3;have hpl:=hu.pg.1;have zX:=hu.old;have hx4:=hx.rt.len;have hxm:l[m]=x:=NJ.symm;have wm2:IntKind.i64.wrap ((m:Int)-1)=(m:Int)-1:=aD;have hcv:x.c<x.n.vs.length:=by have h1:=hx.rt.form;have h2:=hx.c;rw[hx.inn]at h1;simp at h1;omega
 by_cases c2:u.pg.length=2
 ·have dM:((u.pg.length:Int)==2)=true:=by simp;omega
  have B2:BX x u.pg u.key=gC x.n x.c u.key u.pg:=by unfold BX;rw[if_pos c2]
  have hsm:=Co hx hu;rw[B2]at hsm;simp[hm,hxm,dM,cI,oU];refine⟨by omega,by omega,?_⟩;refine bS (Rm x.n x.c u.key u.pg (k8 hx.rt) (by omega) (yt hx.rt) hx.c) ?_;simp;have hF:bA.sU x u=⟨(bA.put u.s (gC x.n x.c u.key u.pg)).1,u.old++[x.p],(bA.put u.s (gC x.n x.c u.key u.pg)).2.1,(bA.put u.s (gC x.n x.c u.key u.pg)).2.2.1,(bA.put u.s (gC x.n x.c u.key u.pg)).2.2.2⟩:=by unfold Go.cC.eu.sU;rw[if_pos g3,B2]
  rw[hF]at FF hall;have xF:=yu _ u.s hu.s (by omega) root (u.old++[x.p]) (gC x.n x.c u.key u.pg) hsm;obtain⟨R,hR⟩:∃R,bA.put u.s (gC x.n x.c u.key u.pg)=R:=⟨_,rfl⟩;rw[hR]at xF FF hall;obtain⟨S',Dz,key',e'⟩:=R;simp only at xF FF hall;refine jI (rI 23 [20,21,37]) xF ?_;by_cases c3:e'=0
  ·subst c3;simp;exact⟨m,_,⟨by omega,FF.symm,rfl⟩,by omega,aB (cL 23 39 [(35,37)]) (by simp[wm2])⟩
  ·have j_:(e' !=0)=true:=by simpa using c3
   have hres:l.foldr bA.sU u0=⟨S',u.old++[x.p],Dz,key',e'⟩:=by rw[hall,kJ c3]
   rw[hres]at hZ Gi;unfold Go.cC.eu.gD at hZ;rw[if_neg c3]at hZ;rw[<-hZ,<-Gi];simp[-az,j_,results243];exact⟨cL 23 39 [(35,37)],by simp⟩
 ·have dM:((u.pg.length:Int)==2)=false:=by simp;omega
  have B2:BX x u.pg u.key=lY x.n x.c u.pg[0]:=by unfold BX;rw[if_neg c2,pR,kq hp0];rfl
  have hsm:=Co hx hu;rw[B2]at hsm;simp[hm,hxm,dM,hp0,cI,oU];refine⟨by omega,by omega,?_⟩;refine bJ (WY x.n x.c u.pg[0] (k8 hx.rt) hcv) ?_;simp;have hF:bA.sU x u=⟨(bA.put u.s (lY x.n x.c u.pg[0])).1,u.old++[x.p],(bA.put u.s (lY x.n x.c u.pg[0])).2.1,(bA.put u.s (lY x.n x.c u.pg[0])).2.2.1,(bA.put u.s (lY x.n x.c u.pg[0])).2.2.2⟩:=by unfold Go.cC.eu.sU;rw[if_pos g3,B2]
  rw[hF]at FF hall;have xF:=yu _ u.s hu.s (by omega) root (u.old++[x.p]) (lY x.n x.c u.pg[0]) hsm;obtain⟨R,hR⟩:∃R,bA.put u.s (lY x.n x.c u.pg[0])=R:=⟨_,rfl⟩;rw[hR]at xF FF hall;obtain⟨S',Dz,key',e'⟩:=R;simp only at xF FF hall;refine jI (rI 23 [20,21,37]) xF ?_;by_cases c3:e'=0
  ·subst c3;simp;exact⟨m,_,⟨by omega,FF.symm,rfl⟩,by omega,aB (cL 23 39 [(35,37)]) (by simp[wm2])⟩
  ·have j_:(e' !=0)=true:=by simpa using c3
   have hres:l.foldr bA.sU u0=⟨S',u.old++[x.p],Dz,key',e'⟩:=by rw[hall,kJ c3]
   rw[hres]at hZ Gi;unfold Go.cC.eu.gD at hZ;rw[if_neg c3]at hZ;rw[<-hZ,<-Gi];simp[-az,j_,results243];exact⟨cL 23 39 [(35,37)],by simp⟩
end Go.Av
namespace Go.aT
open Go.Av
open Go.cC (Nd rB nZ gS lG sy Key C8 BX gC lY Step Right dy oD ju)
def StW(key:Key)(x:Step):Prop:=Right x.n/\x.c=dy x.n key/\lD x.p
theorem zO(key:Key):∀(f:Nat) (c:Cs) (page:Int) (out:List Step),(∀x∈out,StW key x/\x.n.lf=false)->lD page->∀l x,(bA.way key f c page out).2.1=l++[x]->(∀y∈l,y.n.lf=false)/\∀y∈l++[x],StW key y
 |0,c,page,out,h,_,l,x,e=>by
  unfold Go.cC.eu.way at e;split at e
  ·simp only at e;rw[e]at h;exact⟨fun y hy=>(h y (by simp[hy])).2,fun y hy=>(h y hy).1⟩
  ·simp at e
 |f+1,c,page,out,h,hp,l,x,e=>by
  unfold Go.cC.eu.way at e;split at e
  ·simp only at e;rw[e]at h;exact⟨fun y hy=>(h y (by simp[hy])).2,fun y hy=>(h y hy).1⟩
  ·split at e
   ·rename_i h2;have h3:Right (bA.tl c page).2.1:=by
     rcases Go.Av.pZ c page with h3|h3
     ·exact h3.2
     ·exact absurd h2 h3.2
    split at e
    ·simp only at e;have e1:=List.append_inj_left' e (by simp);have e2:=List.append_inj_right' e (by simp);subst e1;injection e2 with e2;refine⟨fun y hy=>(h y hy).2,fun y hy=>?_⟩;rcases iR.1 hy with hy|hy
     ·exact(h y hy).1
     ·rw[List.mem_singleton]at hy;subst hy;rw[<-e2];exact⟨h3,rfl,hp⟩
    ·rename_i h4;have Un:(bA.tl c page).2.1.lf=false:=Bool.eq_false_iff.2 h4;refine zO key f _ _ _ (fun y hy=>?_) ?_ l x e
     ·rcases iR.1 hy with hy|hy
      ·exact h y hy
      ·rw[List.mem_singleton]at hy;subst hy;exact⟨⟨h3,rfl,hp⟩,Un⟩
     ·rcases Nat.lt_or_ge (dy (bA.tl c page).2.1 key) (bA.tl c page).2.1.vs.length with h5|h5
      ·have:=h3.vals _ (List.getElem_mem h5);rw[pR,kq h5];exact⟨by have:=this.1;simp only[Option.getD_some];omega,by have:=this.2;simp only[Option.getD_some];omega⟩
      ·rw[pR,List.getElem?_eq_none h5];exact⟨by simp,by simp⟩
   ·simp at e
theorem E4(key:Key):∀(f:Nat) (c:Cs) (page:Int) (out:List Step),(bA.way key f c page out).2.1.length<=out.length+f
 |0,c,page,out=>by unfold Go.cC.eu.way;split<;>simp
 |f+1,c,page,out=>by
  unfold Go.cC.eu.way;split
  ·simp only;omega
  ·split
   ·split
    ·simp only[dU,List.length_cons,List.length_nil];omega
    ·have:=E4 key f (bA.tl c page).1 ((bA.tl c page).2.1.vs.getD (dy (bA.tl c page).2.1 key) 0) (out++[⟨(bA.tl c page).2.1,page,dy (bA.tl c page).2.1 key⟩]);simp only[dU,List.length_cons,List.length_nil]at this;omega
   ·simp
theorem Rl{c:Cs}{key:Key}{root:Int}(hr:lD root){l:List Step}{x:Step}(e:(bA.way key 40 c root []).2.1=l++[x]):(∀y∈l,JY y)/\Right x.n/\lD x.p/\l.length<=40:=by
 obtain⟨h1,h2⟩:=zO key 40 c root [] (by simp) hr l x e;have h4:=E4 key 40 c root [];rw[e]at h4;refine⟨fun y hy=>?_,(h2 x (by simp)).1,(h2 x (by simp)).2.2,by simp at h4;omega⟩;obtain⟨a,b,d⟩:=h2 y (by simp[hy]);exact⟨a,h1 y hy,by rw[b];exact oD _ _,d⟩
theorem gq(root was:Int)(had:Bool)(u:C8 Cs):(bA.gD root was had u).s=(bA.gD root 0 false u).s/\(bA.gD root was had u).root=(bA.gD root 0 false u).root/\(bA.gD root was had u).e=(bA.gD root 0 false u).e/\(bA.gD root was had u).was=(if(bA.gD root 0 false u).e=0 then was else 0)/\(bA.gD root was had u).had=(if(bA.gD root 0 false u).e=0 then had else false):=by
 unfold Go.cC.eu.gD;by_cases c1:u.e=0
 ·simp only[if_pos c1];by_cases c2:u.pg.length=2
  ·simp only[if_pos c2];by_cases c3:(bA.sv u.s ⟨false,[u.key],u.pg⟩).2.2=0
   ·simp[c3]
   ·simp[c3]
  ·simp[c2]
 ·simp[c1]
theorem yp{t:Nat}{c:Cs}(hS:fL t c){n:Nd}(old:List Int){key:Key}{v:Int}(hn:nS (ju n key v))(ho:old.length<=1):UM (t+16) 1 (bA.mV c n old key v):=by
 have h:=NG hS hn;exact⟨hS.put _,by simp only[Go.cC.eu.mV];omega,⟨h.1,h.2.1⟩,h.2.2.1,h.2.2.2⟩
end Go.aT
namespace Go.Av
open Go.Proofs Go.Proofs.Tryz Go.aT
open Go.cC (Nd rB nZ Right lC Step dy Key gS lG sy C8 BX gC lY nQ Fz bh BZ bV tw uZ ju lH F4 pI tC F5)
theorem Wr{n:Nd}{i:Nat}(h:Right n)(hi:i<n.ks.length):Fz (nQ n i)=true/\nS (nQ n i)/\(nQ n i).ks.length+1=n.ks.length:=by
 have h1:=h.form;have h2:=k8 h;have hb:bh n=if n.lf then 0 else 1:=rfl
 refine⟨?_,⟨by have:=h2.ks;simp[nQ];omega,by have:=h2.vs;simp[nQ];omega,fun k hk=>h2.keys k (BZ hk)⟩,by simp[nQ];omega⟩;unfold Fz;simp only[nQ,dU,List.length_take,List.length_drop,h1,hb,beq_iff_eq];split<;>omega
theorem EV{P:Program}{f:FuncId}{xs:List AV}{r:AV}{tb aM:Tb}(id j:Nat)(el sz:Nat)(ob:Ob)(hl:lk id tb.bx=some ob)(hj:ob.xs[j]?=some (.p .nil))(hk:aE P f xs ((tb.bU el sz).aP id {ob with xs:=ob.xs.set j (.own tb.nx [])}) r aM):aE P f xs tb r aM:=by
 refine⟨hk.1,fun g w vs F h1 hvs=>?_⟩;obtain⟨b,c,f1,fr,f0⟩:=h1.boxes id ob hl;have y8:ob.xs≠[]:=fun hz=>by rw[hz]at hj;simp at hj
 have g_:0<c:=Nat.pos_of_ne_zero fun hz=>y8 (f0 hz);obtain⟨cur,f2,f3,⟨tt,fz,f4,fo⟩,f5,f6,f7,f8,f9⟩:=fr g_;obtain⟨u,hu,hr⟩:=f8.get hj;have hrp:=aZ hr;cases hrp;have hle:=h1.xS (.slice none 0 0);have gQ:=h1.sj el sz none 0;have hl':lk id (tb.bU el sz).bx=some ob:=hl;have uw:∀{vs:List Value} {ys:List AV} (j:Nat) (v:Value),vs[j]?=some v->aJ (g.cY tb.nx (.slice none 0 0)) vs ys->aX (g.cY tb.nx (.slice none 0 0)) v (.own tb.nx [])->aJ (g.cY tb.nx (.slice none 0 0)) vs (ys.set j (.own tb.nx [])):=by
  intro vs ys
  induction ys generalizing vs with
  |nil=>intro j v _ hs _;simpa using hs
  |cons y ys ih=>
   intro j v hv hs hn;cases hs with
   |cons h hs=>
    cases j with
    |zero=>simp at hv;subst hv;exact .cons hn hs
    |succ j=>simp at hv;exact .cons h (ih j v hv hs hn)
 have key:=gQ.aP (o':={ob with xs:=ob.xs.set j (.own tb.nx [])}) (cur':=cur) hl' (show(g.cY tb.nx (.slice none 0 0)).ob id=some (b,c)from f1) g_ f4 rfl rfl rfl (by simpa using f7) (by
  simp only[List.length_set];exact uw j _ hu (f8.mono hle) (.own (by simp[G.cY]) .cX)) (by simpa using f9)
 have hw:w.setRow b cur=w:=setRow_self f4;rw[hw]at key;refine(hk.2 _ w vs F key (hvs.mono hle)).mono ?_;rintro e w' ⟨v,g',rfl,h2,h3,h4⟩;exact⟨v,g',rfl,hle.trans h2,h3,h4⟩
@[reducible]def afx:Ob:=⟨339,2,[.obj 20 0,.p .nil]⟩
theorem Rn(t:Nat)(c:Cs)(h:fL t c)(ht:t+8<=30000)(root:Int)(n:Nd)(hn:nS n):aE prog 241 [.obj 21 0,.p (zW n)] ⟨kg.B 0 8 c++[(20,cI root),(21,afx)],kY 8,22⟩ (.agg true [.p (.sl ((bA.put c n).2.1.map PC.int)),.p (.str (bA.put c n).2.2.1),.p (.int (bA.put c n).2.2.2)]) ⟨kg.B 0 23 (bA.put c n).1++[(20,cI root),(21,oU 22 [])],kY 23++[(22,3,1)],35⟩:=EV 21 1 3 1 afx (by simp) rfl (BJ (yu t c h ht root [] n hn) (by simp[Tb.bU,Tb.aP]) (by simp[Tb.bU,Tb.aP]) rfl)
theorem Sr(c:Cs)(root:Int):aE prog 235 [.obj 20 0] ⟨kg.B 0 8 c++[(20,cI root)],kY 8,21⟩ (.p (.int root)) ⟨kg.B 0 8 c++[(20,cI root)],kY 8,21⟩:=by
 refine ah (rs:=[_]) [] [] [] func235 rfl ?_;simp[-az,cI,results235];exact⟨[],by simp⟩
@[simp]theorem Zq{t:TypeId}{x:AV}:(AV.mW t x).cR=some [.mW t x]:=(rfl)
theorem Nt(root:Int):aE prog 169 [.mW 276 (.obj 0 0),.p (.int root)] ⟨[],[],1⟩ (.obj 1 0) ⟨[(1,⟨371,2,[.mW 276 (.obj 0 0),.p (.int root)]⟩)],[],2⟩:=by
 refine ah (rs:=[_]) [8] [] [] func169 rfl ?_;simp[-az,results169];exact⟨[],by simp⟩
end Go.Av
namespace Go.Av
open Go.Proofs Go.Proofs.Tryz Go.aT
open Go.cC (Nd rB nZ Right lC Step dy Key gS lG sy C8 pQ BX gC lY nQ Fz bh BZ bV tw uZ ju lH F4 pI tC F5)
theorem Wp(t:Nat)(c:Cs)(h:fL t c)(ht:t<=20000)(root:Int)(hroot:lD root)(key:Key)(v:Int)(rQ:key.length<=1000000):aE prog 150 [.obj 20 0,.p (.str key),.p (.int v)] ⟨kg.B 0 8 c++[(20,cI root)],kY 8,21⟩ (.agg true [.p (.int (bA.oP c root key v).was),.p (.bool (bA.oP c root key v).had),.p (.int (bA.oP c root key v).e)]) ⟨kg.B 0 21 (bA.oP c root key v).s++[(20,cI (bA.oP c root key v).root)],kY 21,33⟩:=by
 refine ah (rs:=[_,_,_]) [34] [(11,[(4,.r 1),(11,.f [1]),(14,.s 1 [])])] [(1,33)] func150 rfl ?_;have Rj:=Rk key v;obtain⟨R,hR⟩:∃R,R=bA.oP c root key v:=⟨_,rfl⟩;rw[<-hR];by_cases c1:lH key v=false
 ·have e:R=⟨c,root,0,false,2⟩:=by rw[hR];unfold Go.cC.eu.oP;rw[if_neg (by rw[c1];simp)]
  rw[c1]at Rj;rw[e];simp[cI];refine bS Rj ?_;simp[-az,results150];exact⟨cL 21 8 [],by simp⟩
 have iP:lH key v=true:=by simpa using c1
 rw[iP]at Rj;have hw:=Wq t c h root hroot key;have hst:=fun l x=>Rl (c:=c) (key:=key) hroot (l:=l) (x:=x);have h1:=MC key 40 root [] h;have AK:R=if(bA.way key 40 c root []).2.2=0 then bA.gD root (pI (bA.way key 40 c root []).2.1 key).1 (pI (bA.way key 40 c root []).2.1 key).2 (bA.Dy (bA.way key 40 c root []).1 (bA.way key 40 c root []).2.1 key v)else⟨(bA.way key 40 c root []).1,root,0,false,(bA.way key 40 c root []).2.2⟩:=by rw[hR];unfold Go.cC.eu.oP;rw[if_pos iP]
 obtain⟨q,hq⟩:∃q,bA.way key 40 c root []=q:=⟨_,rfl⟩;rw[hq]at hw h1 AK;simp only[hq]at hst;obtain⟨c1,l,e⟩:=q;simp only at hw h1 hst AK;simp[cI];refine bS Rj ?_;simp;refine jI (rI 8 [20]) hw ?_;by_cases c2:e=0
 ·subst c2;rw[if_pos rfl]at AK;rcases List.eq_nil_or_concat l with rfl|⟨l,x,rfl⟩
  ·have wn:IntKind.i64.wrap (-1)=-1:=by decide
   have hfm:bV uZ key=0:=rfl;have hhm:tw uZ key=false:=rfl;have hlf:ju uZ key v=gC uZ 0 key [v]:=rfl;have lZ:nS uZ:=⟨by simp[uZ],by simp[uZ],by simp[uZ]⟩;have hsm:nS (gC uZ 0 key [v]):=xE lZ rQ (by simp[uZ]) (by simp[uZ]) (by simp);have hok:=yp (n:=uZ) h1 [] (key:=key) (v:=v) (by rw[hlf];exact hsm) (by simp);have hfb:=Uv uZ key (by simp[uZ]);rw[hfm,hhm]at hfb;simp only[Go.cC.eu.Dy,List.getLast?_nil,pI,Go.cC.eu.mV,hlf]at AK hok;simp[wn];refine bZ hfb (by simp[uZ]) ?_;simp;refine bZ (Rm uZ 0 key [v] lZ (by simp) rfl (by simp)) (by simp[uZ]) ?_;simp;have xF:=Rn t c1 h1 (by omega) root (gC uZ 0 key [v]) hsm;have hpk:fL (t+16) (bA.put c1 (gC uZ 0 key [v])).1:=h1.put (gC uZ 0 key [v]);obtain⟨RR,Qt⟩:∃RR,bA.put c1 (gC uZ 0 key [v])=RR:=⟨_,rfl⟩;rw[Qt]at xF AK hok;obtain⟨S',Dz,key',e'⟩:=RR;simp only at xF AK hok;refine jI (rI 21 [20,33]) xF ?_;obtain⟨hF,MD⟩:∃F,F=(([]:List Step).foldr bA.sU ⟨S',([]:List Int),Dz,key',e'⟩):=⟨_,rfl⟩;have AL:R=bA.gD root 0 false hF:=by rw[MD];exact AK
   have gs:R.s=(bA.gD root 0 false hF).s:=(congrArg pQ.s AL).trans (gq root _ _ hF).1;have gr:R.root=(bA.gD root 0 false hF).root:=(congrArg pQ.root AL).trans (gq root _ _ hF).2.1;have ge:R.e=(bA.gD root 0 false hF).e:=(congrArg pQ.e AL).trans (gq root _ _ hF).2.2.1;have gw:R.was=if R.e=0 then 0 else 0:=by rw[ge];exact(congrArg pQ.was AL).trans (gq root _ _ hF).2.2.2.1
   have gh:R.had=if R.e=0 then false else false:=by rw[ge];exact(congrArg pQ.had AL).trans (gq root _ _ hF).2.2.2.2
   by_cases c4:e'=0
   ·subst c4;have B2:=ME (t+16) 1 root ⟨S',([]:List Int),Dz,key',0⟩ hok rfl ([]:List Step) (by simp) (by first|omega|simp) (by omega) (by omega);simp only at B2;rw[<-MD,<-ge,<-gs,<-gr]at B2;simp;refine jI (rI 36 [20,33,35]) B2 ?_;by_cases c5:R.e=0
    ·rw[if_pos c5]at gw gh;rw[gw,gh];simp[-az,c5,results150];exact⟨cL 21 48 [],by simp⟩
    ·rw[if_neg c5]at gw gh;rw[gw,gh];have qS:(R.e !=0)=true:=by simpa using c5
     simp[-az,qS,results150];exact⟨cL 21 48 [],by simp⟩
   ·have hfe:R=⟨S',root,0,false,e'⟩:=by
     rw[AL,MD,kJ (by exact c4)];unfold Go.cC.eu.gD;rw[if_neg c4]
    rw[hfe];have kT:(e' !=0)=true:=by simpa using c4
    have MF:(e'==0)=false:=by simpa using c4
    simp[-az,kT,MF,results150];exact⟨cL 21 36 [],by simp⟩
  ·rw[List.concat_eq_append]at AK hst⊢;obtain⟨lZ,hx,hxp,aiK⟩:=hst l x rfl;have w1:IntKind.i64.wrap ((l.length:Int)+1-1)=(l.length:Int):=by rw[aD];omega
   have w2:IntKind.i64.wrap (l.length:Int)=(l.length:Int):=aD;have tk:List.take l.length (l.map yq++[yq x])=l.map yq:=List.take_left' (by simp);simp[w2,tk];refine⟨by intro y hy;rcases hy with⟨a,_,rfl⟩|rfl<;>rfl,?_⟩;refine bS (Uv x.n key (by have:=(k8 hx).ks;omega)) ?_;have hx4:=hx.len;have hxv:x.n.vs.length<=100:=by have:=hx.form;split at this<;>omega
   by_cases ch:tw x.n key=true
   ·obtain⟨FX,hfk⟩:=F5 ch;have hfv:bV x.n key<x.n.vs.length:=by have:=hx.form;omega
    have hgx:F4 x key=(x.n.vs[bV x.n key],true):=by
     unfold F4;rw[if_pos ch,pR,kq hfv];rfl
    obtain⟨hrf,pY,hrl⟩:=Wr hx FX;have MG:(nQ x.n (bV x.n key)).vs.length<=100:=by simp[nQ];omega
    have hsm:=xE (i:=bV x.n key) (us:=[v]) pY rQ (by omega) MG (by simp);have hlf:ju x.n key v=gC (nQ x.n (bV x.n key)) (bV x.n key) key [v]:=by unfold ju;rw[if_pos ch]
    have hok:=yp (n:=x.n) h1 [x.p] (key:=key) (v:=v) (by rw[hlf];exact hsm) (by simp);simp only[Go.cC.eu.Dy,pI,List.getLast?_concat,List.dropLast_concat,Go.cC.eu.mV,hlf,hgx]at AK hok;simp[ch,hfv];refine bS (aiL x.n (bV x.n key) (k8 hx) (yt hx) FX) ?_;simp;refine bS (Rm (nQ x.n (bV x.n key)) (bV x.n key) key [v] pY (by simp) hrf (by omega)) ?_;simp;have xF:=yu t c1 h1 (by omega) root [x.p] (gC (nQ x.n (bV x.n key)) (bV x.n key) key [v]) hsm;have hpk:fL (t+16) (bA.put c1 (gC (nQ x.n (bV x.n key)) (bV x.n key) key [v])).1:=h1.put (gC (nQ x.n (bV x.n key)) (bV x.n key) key [v]);obtain⟨RR,Qt⟩:∃RR,bA.put c1 (gC (nQ x.n (bV x.n key)) (bV x.n key) key [v])=RR:=⟨_,rfl⟩;rw[Qt]at xF AK hok;obtain⟨S',Dz,key',e'⟩:=RR;simp only at xF AK hok;refine jI (rI 21 [20,33,35]) xF ?_;obtain⟨hF,MD⟩:∃F,F=(l.foldr bA.sU ⟨S',[x.p],Dz,key',e'⟩):=⟨_,rfl⟩;have AL:R=bA.gD root x.n.vs[bV x.n key] true hF:=by rw[MD];exact AK
    have gs:R.s=(bA.gD root 0 false hF).s:=(congrArg pQ.s AL).trans (gq root _ _ hF).1;have gr:R.root=(bA.gD root 0 false hF).root:=(congrArg pQ.root AL).trans (gq root _ _ hF).2.1;have ge:R.e=(bA.gD root 0 false hF).e:=(congrArg pQ.e AL).trans (gq root _ _ hF).2.2.1;have gw:R.was=if R.e=0 then x.n.vs[bV x.n key]else 0:=by rw[ge];exact(congrArg pQ.was AL).trans (gq root _ _ hF).2.2.2.1
    have gh:R.had=if R.e=0 then true else false:=by rw[ge];exact(congrArg pQ.had AL).trans (gq root _ _ hF).2.2.2.2
    by_cases c4:e'=0
    ·subst c4;have B2:=ME (t+16) 1 root ⟨S',[x.p],Dz,key',0⟩ hok rfl l lZ (by first|omega|simp) (by omega) (by omega);simp only at B2;rw[<-MD,<-ge,<-gs,<-gr]at B2;simp;refine jI (rI 36 [20,33,35]) B2 ?_;by_cases c5:R.e=0
     ·rw[if_pos c5]at gw gh;rw[gw,gh];simp[-az,c5,results150];exact⟨cL 21 48 [],by simp⟩
     ·rw[if_neg c5]at gw gh;rw[gw,gh];have qS:(R.e !=0)=true:=by simpa using c5
      simp[-az,qS,results150];exact⟨cL 21 48 [],by simp⟩
    ·have hfe:R=⟨S',root,0,false,e'⟩:=by
      rw[AL,MD,kJ (by exact c4)];unfold Go.cC.eu.gD;rw[if_neg c4]
     rw[hfe];have kT:(e' !=0)=true:=by simpa using c4
     have MF:(e'==0)=false:=by simpa using c4
     simp[-az,kT,MF,results150];exact⟨cL 21 36 [],by simp⟩
   ·have ch':tw x.n key=false:=by simpa using ch
    have hgx:F4 x key=(0,false):=by unfold F4;rw[if_neg ch]
    have hsm:=xE (i:=bV x.n key) (us:=[v]) (k8 hx) rQ (by omega) hxv (by simp);have hlf:ju x.n key v=gC x.n (bV x.n key) key [v]:=by unfold ju;rw[if_neg ch]
    have hok:=yp (n:=x.n) h1 [x.p] (key:=key) (v:=v) (by rw[hlf];exact hsm) (by simp);simp only[Go.cC.eu.Dy,pI,List.getLast?_concat,List.dropLast_concat,Go.cC.eu.mV,hlf,hgx]at AK hok;simp[ch'];refine bS (Rm x.n (bV x.n key) key [v] (k8 hx) (by simp) (yt hx) (tC _ _)) ?_;simp;have xF:=yu t c1 h1 (by omega) root [x.p] (gC x.n (bV x.n key) key [v]) hsm;have hpk:fL (t+16) (bA.put c1 (gC x.n (bV x.n key) key [v])).1:=h1.put (gC x.n (bV x.n key) key [v]);obtain⟨RR,Qt⟩:∃RR,bA.put c1 (gC x.n (bV x.n key) key [v])=RR:=⟨_,rfl⟩;rw[Qt]at xF AK hok;obtain⟨S',Dz,key',e'⟩:=RR;simp only at xF AK hok;refine jI (rI 21 [20,33,35]) xF ?_;obtain⟨hF,MD⟩:∃F,F=(l.foldr bA.sU ⟨S',[x.p],Dz,key',e'⟩):=⟨_,rfl⟩;have AL:R=bA.gD root 0 false hF:=by rw[MD];exact AK
    have gs:R.s=(bA.gD root 0 false hF).s:=(congrArg pQ.s AL).trans (gq root _ _ hF).1;have gr:R.root=(bA.gD root 0 false hF).root:=(congrArg pQ.root AL).trans (gq root _ _ hF).2.1;have ge:R.e=(bA.gD root 0 false hF).e:=(congrArg pQ.e AL).trans (gq root _ _ hF).2.2.1;have gw:R.was=if R.e=0 then 0 else 0:=by rw[ge];exact(congrArg pQ.was AL).trans (gq root _ _ hF).2.2.2.1
    have gh:R.had=if R.e=0 then false else false:=by rw[ge];exact(congrArg pQ.had AL).trans (gq root _ _ hF).2.2.2.2
    by_cases c4:e'=0
    ·subst c4;have B2:=ME (t+16) 1 root ⟨S',[x.p],Dz,key',0⟩ hok rfl l lZ (by first|omega|simp) (by omega) (by omega);simp only at B2;rw[<-MD,<-ge,<-gs,<-gr]at B2;simp;refine jI (rI 36 [20,33,35]) B2 ?_;by_cases c5:R.e=0
     ·rw[if_pos c5]at gw gh;rw[gw,gh];simp[-az,c5,results150];exact⟨cL 21 48 [],by simp⟩
     ·rw[if_neg c5]at gw gh;rw[gw,gh];have qS:(R.e !=0)=true:=by simpa using c5
      simp[-az,qS,results150];exact⟨cL 21 48 [],by simp⟩
    ·have hfe:R=⟨S',root,0,false,e'⟩:=by
      rw[AL,MD,kJ (by exact c4)];unfold Go.cC.eu.gD;rw[if_neg c4]
     rw[hfe];have kT:(e' !=0)=true:=by simpa using c4
     have MF:(e'==0)=false:=by simpa using c4
     simp[-az,kT,MF,results150];exact⟨cL 21 36 [],by simp⟩
 ·have dM:(e !=0)=true:=by simpa using c2
  rw[if_neg c2]at AK;rw[AK];simp[-az,dM,results150];exact⟨cL 21 21 [],by simp⟩
end Go.Av
namespace Go.cC.eu
theorem xQ{σ:Type}{g:σ->Int->List Int->σ×List Int×Int}{s s':σ}{a b:List Int}{p:Int}{l:List Int}(h:lN g (p::l) s a=(s',b,0)):(g s p a).2.2=0/\lN g l (g s p a).1 (g s p a).2.1=(s',b,0):=by
 unfold lN at h;split at h
 ·rename_i h0;exact⟨h0,h⟩
 ·rename_i h0;exact absurd (congrArg (fun x=>x.2.2) h) h0
theorem mR{σ:Type}{g:σ->Int->List Int->σ×List Int×Int}(hg:∀s p a,(g s p a).2.2=0->a.length<=(g s p a).2.1.length):∀(l:List Int) {s s':σ} {a b:List Int},lN g l s a=(s',b,0)->a.length<=b.length
 |[],s,s',a,b,h=>by unfold lN at h;injection h with _ h;injection h with h _;rw[h];exact Nat.le_refl _
 |p::l,s,s',a,b,h=>by
  obtain⟨h1,h2⟩:=xQ h;exact Nat.le_trans (hg s p a h1) (mR hg l h2)
theorem kX{σ:Type}(I:eu σ):∀(f:Nat) (s:σ) (p:Int) (out:List Int),(I.gi f s p out).2.2=0->out.length<=(I.gi f s p out).2.1.length
 |0,s,p,out,h=>by simp[gi]at h
 |f+1,s,p,out,h=>by
  unfold gi at h⊢;split at h
  ·rename_i h0;rw[if_pos h0];split at h
   ·rename_i h1;rw[if_pos h1];simp
   ·rename_i h1;rw[if_neg h1];have:=mR (fun s p a=>kX I f s p a) (I.tl s p).2.1.vs (s:=(I.tl s p).1) (a:=out++[p]) (b:=(lN (I.gi f) (I.tl s p).2.1.vs (I.tl s p).1 (out++[p])).2.1) (Prod.ext rfl (Prod.ext rfl h));simp at this;omega
  ·rename_i h0;exact absurd h h0
end Go.cC.eu
namespace Go.aT
open Go.cC.eu
theorem Aw{t:Nat}{g:Cs->Int->List Int->Cs×List Int×Int}(hg:∀c p a,fL t c->fL t (g c p a).1):∀(l:List Int) (c:Cs) (a:List Int),fL t c->fL t (lN g l c a).1
 |[],c,a,h=>h
 |p::l,c,a,h=>by
  unfold lN;split
  ·exact Aw hg l _ _ (hg c p a h)
  ·exact hg c p a h
theorem si{t:Nat}:∀(f:Nat) (c:Cs) (p:Int) (out:List Int),fL t c->fL t (bA.gi f c p out).1
 |0,c,p,out,h=>h
 |f+1,c,p,out,h=>by
  unfold gi;split
  ·split
   ·exact h.tl p
   ·exact Aw (fun c p a hc=>si f c p a hc) _ _ _ (h.tl p)
  ·exact h.tl p
end Go.aT
namespace Go.Av
open Go.Proofs Go.Proofs.Tryz Go.aT
open Go.cC (Nd rB nZ Right lC)
open Go.cC.eu (lN xQ mR kX)
theorem LR(t:Nat)(root:Int):∀(f d:Nat) (page:Int) (c c':Cs) (out out':List Int),fL t c->lD page->d+f=40->bA.gi f c page out=(c',out',0)->out'.length<=1000000000->aE prog 262 [.obj 20 0,.p (.int page),.p (.int d),.own 21 (out.map PC.int)] ⟨kg.B 0 8 c++[(20,cI root)],kY 8++[(21,3,1)],22⟩ (.agg true [.own 34 (out'.map PC.int),.p (.int 0)]) ⟨kg.B 0 22 c'++[(20,cI root)],kY 22++[(34,3,1)],35⟩:=by
 intro f
 induction f with
 |zero=>intro d page c c' out out' _ _ _ hm _;simp[Go.cC.eu.gi]at hm
 |succ f ih=>
 intro d page c c' out out' h hp hd hm hlen;have hl:=xw t c h root page hp;have hcs:=pZ c page;have hok:=h.tl page;unfold Go.cC.eu.gi at hm;obtain⟨R,hR⟩:∃R,bA.tl c page=R:=⟨_,rfl⟩;rw[hR]at hl hcs hm hok;obtain⟨c1,n,e⟩:=R;simp only at hl hcs hm hok;refine ah (rs:=[_,_]) [] [] [] func262 rfl ?_;have FH:¬(40:Int)<=(d:Int):=by omega
 simp[cI,FH];refine jI (rI 8 [20]) hl ?_;rcases hcs with⟨rfl,d2⟩|⟨rfl,d2⟩
 ·rw[if_pos rfl]at hm;by_cases c2:n.lf=true
  ·rw[if_pos c2]at hm;injection hm with QH hm;injection hm with hm _;subst QH;subst hm;simp at hlen;simp[-az,c2,results262];exact⟨by omega,by omega,[(34,35)],by simp⟩
  ·have dM:n.lf=false:=by simpa using c2
   rw[if_neg c2]at hm;have hmono:=mR (fun s p a=>kX bA f s p a) n.vs hm;simp only[dU,List.length_cons,List.length_nil]at hmono;have hvl:=d2.form;have rQ:=d2.len;have hv5:n.vs.length<=5:=by rw[hvl];split<;>omega
   have wd:=jq d;simp[dM];refine⟨by omega,by omega,?_⟩;refine aL (fun y:Nat×Cs×List Int=>y.1<=n.vs.length/\fL t y.2.1/\lN (bA.gi f) (n.vs.drop y.1) y.2.1 y.2.2=(c',out',0)) (fun y=>[(0,.obj 20 0),(2,.p (.int d)),(3,.own 34 (y.2.2.map PC.int)),(33,.p (.sl (n.vs.map PC.int))),(34,.p (.int n.vs.length)),(35,.p (.int y.1))]) (fun y=>⟨kg.B 0 22 y.2.1++[(20,cI root)],kY 22++[(34,3,1)],35⟩) (fun y=>n.vs.length-y.1) (0,c1,out++[page]) ⟨by simp,hok,by simpa using hm⟩ _ (AS.le_refl _ _) (aB [(34,35)] (by simp)) ?_;rintro⟨k,cc,cur⟩ ⟨g1,g0,g2⟩;simp only at g1 g0 g2;by_cases c3:k<n.vs.length
   ·rw[List.drop_eq_getElem_cons c3]at g2;obtain⟨g3,g4⟩:=xQ g2;have xR:=kX bA f cc n.vs[k] cur g3;have hnext:=mR (fun s p a=>kX bA f s p a) _ g4;have p_:=d2.vals n.vs[k] (List.getElem_mem c3);have LS:=si f cc n.vs[k] cur g0;have wk:=jq k;have hi:=ih (d+1) n.vs[k] cc (bA.gi f cc n.vs[k] cur).1 cur (bA.gi f cc n.vs[k] cur).2.1 g0 ⟨by have:=p_.1;omega,by have:=p_.2;omega⟩ (by omega) (Prod.ext rfl (Prod.ext rfl g3)) (by omega);obtain⟨Q,hQ⟩:∃Q,bA.gi f cc n.vs[k] cur=Q:=⟨_,rfl⟩;rw[hQ]at hi g4 LS;simp[c3,wd,cI];refine jI (rI 22 [20,34]) hi ?_;simp[wk];exact⟨k+1,Q.1,Q.2.1,⟨by omega,LS,g4⟩,by omega,aB (cL 22 35 [(34,47)]) (by simp)⟩
   ·have e:k=n.vs.length:=by omega
    subst e;rw[List.drop_length]at g2;unfold lN at g2;injection g2 with g2 g3;injection g3 with g3 _;subst g2;subst g3;simp[-az,results262];exact⟨[],by simp⟩
 ·exfalso;rw[if_neg d2]at hm;have:=congrArg (fun x=>x.2.2) hm;exact d2 this
theorem De{P:Program}{f:FuncId}{r:AV}{aM:Tb}{pre post:List AV}{xs:List PC}{el sz:Nat}{bx:List (Nat×Ob)}{rw:List (Nat×TypeId×Nat)}{nx:Nat}(h:aE P f (pre++ .own nx xs::post) ⟨bx,(nx,el,sz)::rw,nx+1⟩ r aM):aE P f (pre++ .full xs::post) ⟨bx,rw,nx⟩ r aM:=by
 refine⟨h.1,fun g w vs F hw hvs=>?_⟩;obtain⟨us,ws,rfl,hu,VX⟩:=aJ.split pre hvs;cases VX with
 |cons h1 hs=>
  cases h1 with
  |full hr=>
   rename_i a n;have hle:=hw.xS (.slice a n n);refine(h.2 _ w _ F (hw.sj el sz a n) ((hu.mono hle).append (.cons (.own (by simp[G.cY]) (hr.mono hle.M)) (hs.mono hle)))).mono ?_;rintro e w' ⟨v,g',rfl,h2,h3,h4⟩;exact⟨v,g',rfl,hle.trans h2,h3,h4⟩
theorem LU(t:Nat)(c c':Cs)(h:fL t c)(root:Int)(hroot:lD root)(l:List Int)(hl:bA.pages c root=(c',l,0))(hlen:l.length<=1000000000):aE prog 172 [.obj 20 0] ⟨kg.B 0 8 c++[(20,cI root)],kY 8,21⟩ (.agg true [.p (.sl (l.map PC.int)),.p (.int 0)]) ⟨kg.B 0 21 c'++[(20,cI root)],kY 21,33⟩:=by
 refine ah (rs:=[_,_]) [] [(3,[(4,.r 1),(5,.w [])])] [(1,20)] func172 rfl ?_;unfold Go.cC.eu.pages at hl;by_cases c0:root=0
 ·rw[if_pos c0]at hl;injection hl with rR hl;injection hl with hl _;subst rR;subst hl;subst c0;simp[-az,cI,results172];exact⟨cL 21 8 [],by simp⟩
 ·rw[if_neg c0]at hl;have QI:(root==0)=false:=by simpa using c0
  have hp:=LR t root 40 0 root c c' [] l h hroot (by omega) hl hlen;have Qo:=De (pre:=[.obj 20 0,.p (.int root),.p (.int ((0:Nat):Int))]) (post:=[]) (nx:=21) (el:=3) (sz:=1) (bx:=kg.B 0 8 c++[(20,cI root)]) (rw:=kY 8) (BJ hp (by simp) (by simp) rfl);simp[cI,QI];refine jI (rI 8 [20]) Qo ?_;simp[-az,results172];exact⟨cL 21 22 [],by simp⟩
end Go.Av
namespace Go.cC.eu
theorem sN(aK:Key)(most:Int)(l out:ke):out.length<=(ou aK most l out).length:=by rw[A3];unfold Cj;simp
theorem pe{σ:Type}{g:σ->Int->ke->σ×ke×Int}{most:Int}(hg:∀s p a,(g s p a).2.2=0->a.length<=(g s p a).2.1.length):∀(l:List Int) {s s':σ} {a b:ke},foldM g most l s a=(s',b,0)->a.length<=b.length
 |[],s,s',a,b,h=>by unfold foldM at h;injection h with _ h;injection h with h _;rw[h];exact Nat.le_refl _
 |p::l,s,s',a,b,h=>by
  unfold foldM at h;split at h
  ·split at h
   ·rename_i h1;exact Nat.le_trans (hg s p a h1) (pe hg l h)
   ·rename_i h1;exact absurd (congrArg (fun x=>x.2.2) h) h1
  ·injection h with _ h;injection h with h _;rw[h];exact Nat.le_refl _
theorem nN{σ:Type}(I:eu σ)(aK:Key)(most:Int):∀(f:Nat) (s:σ) (p:Int) (out:ke),(I.eZ aK most f s p out).2.2=0->out.length<=(I.eZ aK most f s p out).2.1.length
 |0,s,p,out,h=>by simp[eZ]at h
 |f+1,s,p,out,h=>by
  unfold eZ at h⊢;split at h
  ·rename_i h0;rw[if_pos h0];split at h
   ·rename_i h1;rw[if_pos h1];exact sN _ _ _ _
   ·rename_i h1;rw[if_neg h1];exact pe (fun s p a=>nN I aK most f s p a) _ (s:=(I.tl s p).1) (b:=(foldM (I.eZ aK most f) most ((I.tl s p).2.1.vs.drop (dy (I.tl s p).2.1 aK)) (I.tl s p).1 out).2.1) (Prod.ext rfl (Prod.ext rfl h))
  ·rename_i h0;exact absurd h h0
end Go.cC.eu
namespace Go.aT
open Go.cC.eu
open Go.cC (Key ke)
theorem Bz{t:Nat}{g:Cs->Int->ke->Cs×ke×Int}{most:Int}(hg:∀c p a,fL t c->fL t (g c p a).1):∀(l:List Int) (c:Cs) (a:ke),fL t c->fL t (foldM g most l c a).1
 |[],c,a,h=>h
 |p::l,c,a,h=>by
  unfold foldM;split
  ·split
   ·exact Bz hg l _ _ (hg c p a h)
   ·exact hg c p a h
  ·exact h
theorem zP{t:Nat}(aK:Key)(most:Int):∀(f:Nat) (c:Cs) (p:Int) (out:ke),fL t c->fL t (bA.eZ aK most f c p out).1
 |0,c,p,out,h=>h
 |f+1,c,p,out,h=>by
  unfold eZ;split
  ·split
   ·exact h.tl p
   ·exact Bz (fun c p a hc=>zP aK most f c p a hc) _ _ _ (h.tl p)
  ·exact h.tl p
end Go.aT
namespace Go.Av
open Go.Proofs Go.Proofs.Tryz Go.aT
open Go.cC (Nd rB nZ Right lC Key ke ou dy oD)
open Go.cC.eu (foldM pe nN sN)
theorem Zr{l:ke}:∀(x:PC) (a:Key) (b:Int),(a,b)∈l->itP (a,b)=x->x.width=2:=by rintro x a b _ rfl;rfl
theorem Lb{n:Nd}{out:ke}{aK:Key}{most:Int}{k:Nat}(hk:k<n.ks.length)(hv:k<n.vs.length):ou aK most ((n.ks.zip n.vs).drop k) out=ou aK most ((n.ks.zip n.vs).drop (k+1)) (if !Op.bytesLess n.ks[k] aK&&decide ((out.length:Int)<most)then out++[(n.ks[k],n.vs[k])]else out):=by
 have hz:k<(n.ks.zip n.vs).length:=by simp;omega
 have e:(n.ks.zip n.vs).drop k=(n.ks[k],n.vs[k])::(n.ks.zip n.vs).drop (k+1):=by
  rw[List.drop_eq_getElem_cons hz];simp
 rw[e]
 conv=>lhs;unfold ou
theorem P1(t:Nat)(root:Int)(aK:Key)(most:Int):∀(f d:Nat) (page:Int) (c c':Cs) (out out':ke),fL t c->lD page->d+f=40->bA.eZ aK most f c page out=(c',out',0)->out'.length<=1000000000->aE prog 266 [.obj 20 0,.p (.int page),.p (.int d),.p (.str aK),.p (.int most),.own 21 (out.map itP)] ⟨kg.B 0 8 c++[(20,cI root)],kY 8++[(21,286,2)],22⟩ (.agg true [.own 34 (out'.map itP),.p (.int 0)]) ⟨kg.B 0 22 c'++[(20,cI root)],kY 22++[(34,286,2)],35⟩:=by
 intro f
 induction f with
 |zero=>intro d page c c' out out' _ _ _ hm _;simp[Go.cC.eu.eZ]at hm
 |succ f ih=>
 intro d page c c' out out' h hp hd hm hlen;have hl:=xw t c h root page hp;have hcs:=pZ c page;have hok:=h.tl page;unfold Go.cC.eu.eZ at hm;obtain⟨R,hR⟩:∃R,bA.tl c page=R:=⟨_,rfl⟩;rw[hR]at hl hcs hm hok;obtain⟨c1,n,e⟩:=R;simp only at hl hcs hm hok;refine ah (rs:=[_,_]) [] [] [] func266 rfl ?_;have FH:¬(40:Int)<=(d:Int):=by omega
 simp[cI,FH];refine jI (rI 8 [20]) hl ?_;rcases hcs with⟨rfl,d2⟩|⟨rfl,d2⟩
 ·rw[if_pos rfl]at hm;have hvl:=d2.form;have rQ:=d2.len;by_cases c2:n.lf=true
  ·rw[if_pos c2]at hm;injection hm with QH hm;injection hm with hm _;subst QH;rw[c2]at hvl;simp only[if_true,Nat.add_zero]at hvl;simp[c2];refine aL (fun y:Nat×ke=>y.1<=n.ks.length/\ou aK most ((n.ks.zip n.vs).drop y.1) y.2=out') (fun y=>[(3,.p (.str aK)),(4,.p (.int most)),(5,.own 34 (y.2.map itP)),(14,.obj 35 0),(33,.p (.sl (n.ks.map PC.str))),(34,.p (.int n.ks.length)),(35,.p (.int y.1))]) (fun y=>⟨kg.B 0 22 c1++[(20,cI root),(35,⟨341,3,[.p (.bool true),.p (.sl (n.ks.map PC.str)),.p (.sl (n.vs.map PC.int))]⟩)],kY 22++[(34,286,2)],36⟩) (fun y=>n.ks.length-y.1) (0,out) ⟨by simp,by simpa using hm⟩ _ (AS.le_refl _ _) (aB [(34,21),(35,34)] (by simp)) ?_;rintro⟨k,cur⟩ ⟨g1,g2⟩;simp only at g1 g2;by_cases c3:k<n.ks.length
   ·have c3v:k<n.vs.length:=by omega
    rw[Lb c3 c3v]at g2;have hmo:=sN aK most ((n.ks.zip n.vs).drop (k+1)) (if !Op.bytesLess n.ks[k] aK&&decide ((cur.length:Int)<most)then cur++[(n.ks[k],n.vs[k])]else cur);rw[g2]at hmo;have wk:=jq k;by_cases c4:Op.bytesLess n.ks[k] aK=true
    ·simp[c4]at g2;simp[c3,c4,wk];exact⟨k+1,cur,⟨by omega,g2⟩,by omega,ak (by simp)⟩
    ·have kT:Op.bytesLess n.ks[k] aK=false:=by simpa using c4
     by_cases c5:(cur.length:Int)<most
     ·simp[kT,c5]at g2 hmo;simp[c3,c3v,kT,c5,wk];exact⟨Zr,by omega,by omega,k+1,cur++[(n.ks[k],n.vs[k])],⟨by omega,g2⟩,by omega,aB [(34,36)] (by simp)⟩
     ·simp[kT,c5]at g2;simp[c3,kT,c5,wk];exact⟨k+1,cur,⟨by omega,g2⟩,by omega,ak (by simp)⟩
   ·have e:k=n.ks.length:=by omega
    subst e;rw[List.drop_of_length_le (by simp;omega)]at g2;unfold ou at g2;subst g2;simp[-az,results266];exact⟨[],by simp⟩
  ·have dM:n.lf=false:=Bool.eq_false_iff.2 c2;rw[if_neg c2]at hm;have akr:=NL n aK (by omega);have iB:=oD n aK;rw[dM]at hvl;simp only[Bool.false_eq_true,if_false]at hvl;have wd:=jq d;simp[dM];refine bZ akr (by simp[dM]) ?_;simp;refine aL (fun y:Nat×Cs×ke=>y.1<=n.vs.length/\fL t y.2.1/\foldM (bA.eZ aK most f) most (n.vs.drop y.1) y.2.1 y.2.2=(c',out',0)) (fun y=>[(0,.obj 20 0),(2,.p (.int d)),(3,.p (.str aK)),(4,.p (.int most)),(5,.own 34 (y.2.2.map itP)),(14,.obj 35 0),(18,.p (.int y.1))]) (fun y=>⟨kg.B 0 22 y.2.1++[(20,cI root),(35,⟨341,3,[.p (.bool false),.p (.sl (n.ks.map PC.str)),.p (.sl (n.vs.map PC.int))]⟩)],kY 22++[(34,286,2)],36⟩) (fun y=>n.vs.length-y.1) (dy n aK,c1,out) ⟨by simp;omega,hok,hm⟩ _ (AS.le_refl _ _) (aB [(34,21),(35,34)] (by simp)) ?_;rintro⟨k,cc,cur⟩ ⟨g1,g0,g2⟩;simp only at g1 g0 g2;by_cases c3:k<n.vs.length
   ·rw[List.drop_eq_getElem_cons c3]at g2;by_cases c5:(cur.length:Int)<most
    ·unfold foldM at g2;rw[if_pos c5]at g2;have g3:(bA.eZ aK most f cc n.vs[k] cur).2.2=0:=by
      by_cases g3:(bA.eZ aK most f cc n.vs[k] cur).2.2=0
      ·exact g3
      ·rw[if_neg g3]at g2;exact absurd (congrArg (fun x=>x.2.2) g2) g3
     rw[if_pos g3]at g2;have xR:=nN bA aK most f cc n.vs[k] cur g3;have hnext:=pe (fun s p a=>nN bA aK most f s p a) _ g2;have p_:=d2.vals n.vs[k] (List.getElem_mem c3);have LS:=zP aK most f cc n.vs[k] cur g0;have wk:=jq k;have hi:=ih (d+1) n.vs[k] cc (bA.eZ aK most f cc n.vs[k] cur).1 cur (bA.eZ aK most f cc n.vs[k] cur).2.1 g0 ⟨by have:=p_.1;omega,by have:=p_.2;omega⟩ (by omega) (Prod.ext rfl (Prod.ext rfl g3)) (by omega);obtain⟨Q,hQ⟩:∃Q,bA.eZ aK most f cc n.vs[k] cur=Q:=⟨_,rfl⟩;rw[hQ]at hi g2 LS;simp[c3,c5,wd,cI];refine jI (rI 22 [20,34]) hi ?_;simp[wk];exact⟨k+1,Q.1,Q.2.1,⟨by omega,LS,g2⟩,by omega,aB (cL 22 36 [(34,48)]) (by simp)⟩
    ·unfold foldM at g2;rw[if_neg c5]at g2;injection g2 with g2 g3;injection g3 with g3 _;subst g2;subst g3;simp[-az,c3,c5,results266];exact⟨[],by simp⟩
   ·have e:k=n.vs.length:=by omega
    subst e;rw[List.drop_length]at g2;unfold foldM at g2;injection g2 with g2 g3;injection g3 with g3 _;subst g2;subst g3;simp[-az,results266];exact⟨[],by simp⟩
 ·exfalso;rw[if_neg d2]at hm;exact d2 (congrArg (fun x=>x.2.2) hm)
theorem RT(t:Nat)(c c':Cs)(h:fL t c)(root:Int)(hroot:lD root)(aK:Key)(most:Int)(l:ke)(hl:bA.scan c root aK most=(c',l,0))(hlen:l.length<=1000000000):aE prog 174 [.obj 20 0,.p (.str aK),.p (.int most)] ⟨kg.B 0 8 c++[(20,cI root)],kY 8,21⟩ (.agg true [.p (adv l),.p (.int 0)]) ⟨kg.B 0 21 c'++[(20,cI root)],kY 21,33⟩:=by
 refine ah (rs:=[_,_]) [] [] [] func174 rfl ?_;unfold Go.cC.eu.scan at hl;by_cases c0:root=0
 ·rw[if_pos (.inl c0)]at hl;injection hl with rR hl;injection hl with hl _;subst rR;subst hl;subst c0;simp[-az,cI,results174];exact⟨cL 21 8 [],by simp⟩
 ·have QI:(root==0)=false:=by simpa using c0
  by_cases cm:most<1
  ·rw[if_pos (.inr cm)]at hl;injection hl with rR hl;injection hl with hl _;subst rR;subst hl;simp[-az,cI,QI,cm,results174];exact⟨cL 21 8 [],by simp⟩
  ·rw[if_neg (by rintro(h|h);exact c0 h;exact cm h)]at hl;have hp:=P1 t root aK most 40 0 root c c' [] l h hroot (by omega) hl hlen;have Qo:=De (pre:=[.obj 20 0,.p (.int root),.p (.int ((0:Nat):Int)),.p (.str aK),.p (.int most)]) (post:=[]) (nx:=21) (el:=286) (sz:=2) (bx:=kg.B 0 8 c++[(20,cI root)]) (rw:=kY 8) (BJ hp (by simp) (by simp) rfl);simp[cI,QI,cm];refine jI (rI 8 [20]) Qo ?_;simp[-az,results174];exact⟨cL 21 22 [],by simp⟩
end Go.Av
