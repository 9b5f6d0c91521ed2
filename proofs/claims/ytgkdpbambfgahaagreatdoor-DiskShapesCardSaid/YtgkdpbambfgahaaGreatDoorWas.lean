/- DiskShapes, part 19: what functions compute, and its plain law; no condition. -/
import Derived.Test.YtgkdpbambfgahaaGreatDoorWar
import Derived.WalkKit
set_option linter.all false
set_option maxRecDepth 100000
set_option maxHeartbeats 64000000
namespace Go.Av
open Go.Proofs Go.Proofs.Tryz
theorem HO{es:List Ext}(h:Dj es){k:Nat}(hk:k<es.length){s:Nat}(hs:jc es[k] s):∀e∈es.take k,¬jc e s:=by
 intro e he hes;obtain⟨p,hp,rfl⟩:=List.getElem_of_mem he;simp at hp hes;exact List.pairwise_iff_getElem.1 h p k (by omega) hk (by omega) s hes hs
theorem DP{n:Nat}{F:List Ext}(hF:Ok n F){es:List Ext}(h1:∀e∈es,1<=e.2/\∀s,jc e s->mem F s)(hd:Dj es):∀k,k<=es.length->Ok n ((es.take k).foldl fN F)/\(∀s,mem ((es.take k).foldl fN F) s↔mem F s/\∀e∈es.take k,¬jc e s)/\∀(hk:k<es.length),hasB ((es.take k).foldl fN F) es[k]=true:=by
 have has:∀k (hk:k<es.length),Ok n ((es.take k).foldl fN F)->(∀s,mem ((es.take k).foldl fN F) s↔mem F s/\∀e∈es.take k,¬jc e s)->hasB ((es.take k).foldl fN F) es[k]=true:=by
  intro k hk hO hm;have:=h1 es[k] (by simp);exact(xy hO.nr _ this.1).2 fun s hs=>(hm s).2 ⟨this.2 s hs,HO hd hk hs⟩
 intro k
 induction k with
 |zero=>intro _;exact⟨hF,by simp,fun hk=>has 0 hk hF (by simp)⟩
 |succ k ih=>
  intro hk;obtain⟨i1,i2,i3⟩:=ih (by omega);have ck:k<es.length:=by omega
  rw[iA ck,List.foldl_append];simp only[List.foldl_cons,List.foldl_nil];obtain⟨j1,j2⟩:=i1.cut (h1 es[k] (by simp)).1 (i3 ck);have hm:∀s,mem (fN ((es.take k).foldl fN F) es[k]) s↔mem F s/\∀e∈es.take k++[es[k]],¬jc e s:=by
   intro s;rw[j2,i2];simp only[iR,List.mem_singleton];constructor
   ·rintro⟨⟨a,b⟩,c⟩;exact⟨a,fun e he=>by rcases he with he|rfl;exact b e he;exact c⟩
   ·rintro⟨a,b⟩;exact⟨⟨a,fun e he=>b e (.inl he)⟩,b _ (.inr rfl)⟩
  refine⟨j1,hm,fun hk'=>?_⟩;have:=has (k+1) hk';rw[iA ck,List.foldl_append]at this;exact this j1 hm
theorem tK{n:Nat}{W:List Ext}(hW:Ok n W){es:List Ext}(h1:∀e∈es,1<=e.2/\e.1+e.2<=n/\∀s,jc e s->¬mem W s)(hd:Dj es):∀k,k<=es.length->Ok n ((es.take k).foldl gy W)/\(∀s,mem ((es.take k).foldl gy W) s↔mem W s\/∃e∈es.take k,jc e s)/\∀(hk:k<es.length),uO ((es.take k).foldl gy W) es[k]=false:=by
 have has:∀k (hk:k<es.length),Ok n ((es.take k).foldl gy W)->(∀s,mem ((es.take k).foldl gy W) s↔mem W s\/∃e∈es.take k,jc e s)->uO ((es.take k).foldl gy W) es[k]=false:=by
  intro k hk hO hm;have h2:=h1 es[k] (by simp);cases hb:uO ((es.take k).foldl gy W) es[k]with
  |false=>rfl
  |true=>
   obtain⟨s,hs,Ay⟩:=(sk hO.nr _ h2.1).1 hb;rcases(hm s).1 Ay with h|⟨e,he,h⟩
   ·exact absurd h (h2.2.2 s hs)
   ·exact absurd h (HO hd hk hs e he)
 intro k
 induction k with
 |zero=>intro _;exact⟨hW,by simp,fun hk=>has 0 hk hW (by simp)⟩
 |succ k ih=>
  intro hk;obtain⟨i1,i2,i3⟩:=ih (by omega);have ck:k<es.length:=by omega
  rw[iA ck,List.foldl_append];simp only[List.foldl_cons,List.foldl_nil];have hk1:=h1 es[k] (by simp);obtain⟨j1,j2⟩:=i1.put hk1.1 (i3 ck) hk1.2.1;have hm:∀s,mem (gy ((es.take k).foldl gy W) es[k]) s↔mem W s\/∃e∈es.take k++[es[k]],jc e s:=by
   intro s;rw[j2,i2];simp only[iR,List.mem_singleton];constructor
   ·rintro((a|⟨e,he,hs⟩)|c)
    ·exact .inl a
    ·exact .inr ⟨e,.inl he,hs⟩
    ·exact .inr ⟨_,.inr rfl,c⟩
   ·rintro(a|⟨e,he|rfl,hs⟩)
    ·exact .inl (.inl a)
    ·exact .inl (.inr ⟨e,he,hs⟩)
    ·exact .inr hs
  refine⟨j1,hm,fun hk'=>?_⟩;have:=has (k+1) hk';rw[iA ck,List.foldl_append]at this;exact this j1 hm
def eC(n:Nat)(F:List Ext)(es:List (Int×Int)):Bool:=jj n [] es&&!(es.map toE).any fun e=>!hasB F e
def pK(n:Nat)(F W:List Ext)(es:List (Int×Int)):Bool:=jj n [] es&&!(es.map toE).any fun e=>uO F e||uO W e
theorem Cb(m f r w nx n:Nat)(h:LZ m f r w nx)(hn:n<=65536)(F R W:List Ext)(hF:Ok n F)(hR:Ok n R)(hW:Ok n W)(es:List (Int×Int))(hl:es.length<=900):aE prog 173 [.obj m 0,.p (.sl (es.map Ga))] ⟨dG m f r w n F R W,[],nx⟩ (.p (.bool (eC n F es))) ⟨dG m nx r w n (if eC n F es=true then(es.map toE).foldl fN F else F) R W,[],nx+1⟩:=by
 have hRt:=HP n (by omega) (kn F) (kn R) (kn W) es hl;have nF:=hF.Lx hn;have nR:=hR.Lx hn;have nW:=hW.Lx hn;obtain⟨hm,hf,hr,hw,mf,mr,mw,fr,fw,eE⟩:=h;have fO:=Ne.symm mf;have fP:=Ne.symm mr;have fQ:=Ne.symm mw;have fR:=Ne.symm fr;have wf_:=Ne.symm fw;have fS:=Ne.symm eE;obtain⟨q1,p1,q2,p2,q3,p3,q4,p4,q5,p5,fT,iD,jd,jN,lO,km,q6,p6,q7,p7,q8,p8,q9,p9,q10,iU,dN,iE,je,jO⟩:¬m=nx/\¬nx=m/\¬m=nx+1/\¬nx+1=m/\¬m=nx+1+1/\¬nx+1+1=m/\¬m=nx+1+1+1/\¬nx+1+1+1=m/\¬m=nx+1+1+1+1/\¬nx+1+1+1+1=m/\m<nx+1/\m<nx+1+1/\m<nx+1+1+1/\m<nx+1+1+1+1/\m<nx+1+1+1+1+1/\m<nx+5/\¬f=nx/\¬nx=f/\¬f=nx+1/\¬nx+1=f/\¬f=nx+1+1/\¬nx+1+1=f/\¬f=nx+1+1+1/\¬nx+1+1+1=f/\¬f=nx+1+1+1+1/\¬nx+1+1+1+1=f/\f<nx+1/\f<nx+1+1/\f<nx+1+1+1/\f<nx+1+1+1+1:=by and_intros<;>omega
 obtain⟨lQ,kf,q11,iV,q12,iW,q13,jB,q14,jC,q15,jP,fU,iF,jf,jQ,lR,kr,q16,jR,q17,lS,q18,lT,q19,lU,q20,lV,fV,iG⟩:f<nx+1+1+1+1+1/\f<nx+5/\¬r=nx/\¬nx=r/\¬r=nx+1/\¬nx+1=r/\¬r=nx+1+1/\¬nx+1+1=r/\¬r=nx+1+1+1/\¬nx+1+1+1=r/\¬r=nx+1+1+1+1/\¬nx+1+1+1+1=r/\r<nx+1/\r<nx+1+1/\r<nx+1+1+1/\r<nx+1+1+1+1/\r<nx+1+1+1+1+1/\r<nx+5/\¬w=nx/\¬nx=w/\¬w=nx+1/\¬nx+1=w/\¬w=nx+1+1/\¬nx+1+1=w/\¬w=nx+1+1+1/\¬nx+1+1+1=w/\¬w=nx+1+1+1+1/\¬nx+1+1+1+1=w/\w<nx+1/\w<nx+1+1:=by and_intros<;>omega
 obtain⟨jg,jS,lW,kw⟩:w<nx+1+1+1/\w<nx+1+1+1+1/\w<nx+1+1+1+1+1/\w<nx+5:=by and_intros<;>omega
 have hbm:∀bx k,lk m bx=some (iQ n f r w F R W)->lk f bx=some (cg F)->lk r bx=some (cg R)->lk w bx=some (cg W)->cQ bx (k+2) (.obj m 0) (.ref (yF n F R W)):=fun bx k a b c d=>HQ a b c d;refine ah (rs:=[_]) [2] [(6,[(0,.r 1),(3,.r 2),(4,.w [1,2])])] [(1,nx),(2,nx+1+1)] func173 rfl ?_;simp[dG,iQ,en,mf,fO,mr,fP,mw,fQ,fr,fR,fw,wf_,eE,fS,q1,p1,q2,p2,q3,p3,q4,p4,q5,p5,hm,fT,iD,jd,jN,lO,km,q6,p6,q7,p7,q8,p8,q9,p9,q10,iU,hf,dN,iE,je,jO,lQ,kf,q11,iV,q12,iW,q13,jB,q14,jC,q15,jP,hr,fU,iF,jf,jQ,lR,kr,q16,jR,q17,lS,q18,lT,q19,lU,q20,lV,hw,fV,iG,jg,jS,lW,kw];refine bD hRt ⟨hbm _ _ (by simp[mf,fO,mr,fP,mw,fQ,fr,fR,fw,wf_,eE,fS,q1,p1,q2,p2,q3,p3,q4,p4,q5,p5,hm,fT,iD,jd,jN,lO,km,q6,p6,q7,p7,q8,p8,q9,p9,q10,iU,hf,dN,iE,je,jO,lQ,kf,q11,iV,q12,iW,q13,jB,q14,jC,q15,jP,hr,fU,iF,jf,jQ,lR,kr,q16,jR,q17,lS,q18,lT,q19,lU,q20,lV,hw,fV,iG,jg,jS,lW,kw]) (by simp[mf,fO,mr,fP,mw,fQ,fr,fR,fw,wf_,eE,fS,q1,p1,q2,p2,q3,p3,q4,p4,q5,p5,hm,fT,iD,jd,jN,lO,km,q6,p6,q7,p7,q8,p8,q9,p9,q10,iU,hf,dN,iE,je,jO,lQ,kf,q11,iV,q12,iW,q13,jB,q14,jC,q15,jP,hr,fU,iF,jf,jQ,lR,kr,q16,jR,q17,lS,q18,lT,q19,lU,q20,lV,hw,fV,iG,jg,jS,lW,kw]) (by simp[mf,fO,mr,fP,mw,fQ,fr,fR,fw,wf_,eE,fS,q1,p1,q2,p2,q3,p3,q4,p4,q5,p5,hm,fT,iD,jd,jN,lO,km,q6,p6,q7,p7,q8,p8,q9,p9,q10,iU,hf,dN,iE,je,jO,lQ,kf,q11,iV,q12,iW,q13,jB,q14,jC,q15,jP,hr,fU,iF,jf,jQ,lR,kr,q16,jR,q17,lS,q18,lT,q19,lU,q20,lV,hw,fV,iG,jg,jS,lW,kw]) (by simp[mf,fO,mr,fP,mw,fQ,fr,fR,fw,wf_,eE,fS,q1,p1,q2,p2,q3,p3,q4,p4,q5,p5,hm,fT,iD,jd,jN,lO,km,q6,p6,q7,p7,q8,p8,q9,p9,q10,iU,hf,dN,iE,je,jO,lQ,kf,q11,iV,q12,iW,q13,jB,q14,jC,q15,jP,hr,fU,iF,jf,jQ,lR,kr,q16,jR,q17,lS,q18,lT,q19,lU,q20,lV,hw,fV,iG,jg,jS,lW,kw]),by simp[cQ],trivial⟩ rfl ?_;cases hr:jj n [] es with
 |false=>
  have hB:eC n F es=false:=by unfold eC;rw[hr];rfl
  simp[hB,results173];exact⟨[(nx,f)],by simp[en,mf,fO,mr,fP,mw,fQ,fr,fR,fw,wf_,eE,fS,q1,p1,q2,p2,q3,p3,q4,p4,q5,p5,hm,fT,iD,jd,jN,lO,km,q6,p6,q7,p7,q8,p8,q9,p9,q10,iU,hf,dN,iE,je,jO,lQ,kf,q11,iV,q12,iW,q13,jB,q14,jC,q15,jP,hr,fU,iF,jf,jQ,lR,kr,q16,jR,q17,lS,q18,lT,q19,lU,q20,lV,hw,fV,iG,jg,jS,lW,kw]⟩
 |true=>
  obtain⟨g1,g2,g3⟩:=oq es [] qp hr;generalize hes:es.map toE=es' at*;have hlen:es.length=es'.length:=by rw[<-hes];simp
  rw[g1];have hC:=yG (g:=263) (caps:=[.ref (.ref (yF n F R W))]) (fun e=>!hasB F e) es' (by omega) (fun e he=>adp n F R W e nF (by have:=(g2 e he).2.1;omega));simp[mf,fO,mr,fP,mw,fQ,fr,fR,fw,wf_,eE,fS,q1,p1,q2,p2,q3,p3,q4,p4,q5,p5,hm,fT,iD,jd,jN,lO,km,q6,p6,q7,p7,q8,p8,q9,p9,q10,iU,hf,dN,iE,je,jO,lQ,kf,q11,iV,q12,iW,q13,jB,q14,jC,q15,jP,hr,fU,iF,jf,jQ,lR,kr,q16,jR,q17,lS,q18,lT,q19,lU,q20,lV,hw,fV,iG,jg,jS,lW,kw];refine bD hC ⟨by simp[cQ],⟨rfl,⟨⟨148,1,[.obj m 0]⟩,.obj m 0,by simp[mf,fO,mr,fP,mw,fQ,fr,fR,fw,wf_,eE,fS,q1,p1,q2,p2,q3,p3,q4,p4,q5,p5,hm,fT,iD,jd,jN,lO,km,q6,p6,q7,p7,q8,p8,q9,p9,q10,iU,hf,dN,iE,je,jO,lQ,kf,q11,iV,q12,iW,q13,jB,q14,jC,q15,jP,hr,fU,iF,jf,jQ,lR,kr,q16,jR,q17,lS,q18,lT,q19,lU,q20,lV,hw,fV,iG,jg,jS,lW,kw],rfl,rfl,hbm _ _ (by simp[mf,fO,mr,fP,mw,fQ,fr,fR,fw,wf_,eE,fS,q1,p1,q2,p2,q3,p3,q4,p4,q5,p5,hm,fT,iD,jd,jN,lO,km,q6,p6,q7,p7,q8,p8,q9,p9,q10,iU,hf,dN,iE,je,jO,lQ,kf,q11,iV,q12,iW,q13,jB,q14,jC,q15,jP,hr,fU,iF,jf,jQ,lR,kr,q16,jR,q17,lS,q18,lT,q19,lU,q20,lV,hw,fV,iG,jg,jS,lW,kw]) (by simp[mf,fO,mr,fP,mw,fQ,fr,fR,fw,wf_,eE,fS,q1,p1,q2,p2,q3,p3,q4,p4,q5,p5,hm,fT,iD,jd,jN,lO,km,q6,p6,q7,p7,q8,p8,q9,p9,q10,iU,hf,dN,iE,je,jO,lQ,kf,q11,iV,q12,iW,q13,jB,q14,jC,q15,jP,hr,fU,iF,jf,jQ,lR,kr,q16,jR,q17,lS,q18,lT,q19,lU,q20,lV,hw,fV,iG,jg,jS,lW,kw]) (by simp[mf,fO,mr,fP,mw,fQ,fr,fR,fw,wf_,eE,fS,q1,p1,q2,p2,q3,p3,q4,p4,q5,p5,hm,fT,iD,jd,jN,lO,km,q6,p6,q7,p7,q8,p8,q9,p9,q10,iU,hf,dN,iE,je,jO,lQ,kf,q11,iV,q12,iW,q13,jB,q14,jC,q15,jP,hr,fU,iF,jf,jQ,lR,kr,q16,jR,q17,lS,q18,lT,q19,lU,q20,lV,hw,fV,iG,jg,jS,lW,kw]) (by simp[mf,fO,mr,fP,mw,fQ,fr,fR,fw,wf_,eE,fS,q1,p1,q2,p2,q3,p3,q4,p4,q5,p5,hm,fT,iD,jd,jN,lO,km,q6,p6,q7,p7,q8,p8,q9,p9,q10,iU,hf,dN,iE,je,jO,lQ,kf,q11,iV,q12,iW,q13,jB,q14,jC,q15,jP,hr,fU,iF,jf,jQ,lR,kr,q16,jR,q17,lS,q18,lT,q19,lU,q20,lV,hw,fV,iG,jg,jS,lW,kw])⟩,trivial⟩,trivial⟩ rfl ?_;cases ha:es'.any (fun e=>!hasB F e)with
  |true=>
   have hB:eC n F es=false:=by unfold eC;rw[hr,hes,ha];rfl
   simp[hB,results173];exact⟨[(nx,f)],by simp[en,mf,fO,mr,fP,mw,fQ,fr,fR,fw,wf_,eE,fS,q1,p1,q2,p2,q3,p3,q4,p4,q5,p5,hm,fT,iD,jd,jN,lO,km,q6,p6,q7,p7,q8,p8,q9,p9,q10,iU,hf,dN,iE,je,jO,lQ,kf,q11,iV,q12,iW,q13,jB,q14,jC,q15,jP,hr,fU,iF,jf,jQ,lR,kr,q16,jR,q17,lS,q18,lT,q19,lU,q20,lV,hw,fV,iG,jg,jS,lW,kw]⟩
  |false=>
   have hB:eC n F es=true:=by unfold eC;rw[hr,hes,ha];rfl
   rw[List.any_eq_false]at ha;have Aj:=DP hF (es:=es') (fun e he=>⟨(g2 e he).1,(xy hF.nr e (g2 e he).1).1 (by have:=ha e he;simpa using this)⟩) g3;rw[hB];simp[mf,fO,mr,fP,mw,fQ,fr,fR,fw,wf_,eE,fS,q1,p1,q2,p2,q3,p3,q4,p4,q5,p5,hm,fT,iD,jd,jN,lO,km,q6,p6,q7,p7,q8,p8,q9,p9,q10,iU,hf,dN,iE,je,jO,lQ,kf,q11,iV,q12,iW,q13,jB,q14,jC,q15,jP,hr,fU,iF,jf,jQ,lR,kr,q16,jR,q17,lS,q18,lT,q19,lU,q20,lV,hw,fV,iG,jg,jS,lW,kw];obtain⟨Fk,Cc⟩:∃Fk:Nat->List Ext,Fk=fun k=>(es'.take k).foldl fN F:=⟨_,rfl⟩;have h0:Fk 0=F:=by rw[Cc];simp
   have hL:Fk es'.length=es'.foldl fN F:=by rw[Cc];simp
   have hS:∀k (hk:k<es'.length),Fk (k+1)=fN (Fk k) es'[k]:=by intro k hk;rw[Cc];simp only;rw[iA hk,List.foldl_append];rfl
   have hO:∀k,k<=es'.length->Ok n (Fk k):=fun k hk=>by rw[Cc];exact(Aj k hk).1
   have hH:∀k (hk:k<es'.length),hasB (Fk k) es'[k]=true:=fun k hk=>by rw[Cc];exact(Aj k (by omega)).2.2 hk
   rw[<-hL];clear Aj Cc;refine aL (fun k:Nat=>k<=es'.length) (fun k=>[(2,.obj nx 0),(16,.p (kn es')),(17,.p (.int es'.length)),(18,.p (.int k))]) (fun k=>⟨(nx,⟨148,1,[.obj m 0]⟩)::dG m (nx+1) r w n (Fk k) R W,[],nx+1+1⟩) (fun k=>es'.length-k) 0 (by simp) _ (AS.le_refl _ _) (aB [(nx+1,f)] (by simp[dG,iQ,en,h0,mf,fO,mr,fP,mw,fQ,fr,fR,fw,wf_,eE,fS,q1,p1,q2,p2,q3,p3,q4,p4,q5,p5,hm,fT,iD,jd,jN,lO,km,q6,p6,q7,p7,q8,p8,q9,p9,q10,iU,hf,dN,iE,je,jO,lQ,kf,q11,iV,q12,iW,q13,jB,q14,jC,q15,jP,hr,fU,iF,jf,jQ,lR,kr,q16,jR,q17,lS,q18,lT,q19,lU,q20,lV,hw,fV,iG,jg,jS,lW,kw])) ?_;intro k hk;have k1:∀e∈es',1<=e.2/\e.1+e.2<=n:=fun e he=>⟨(g2 e he).1,(g2 e he).2.1⟩;by_cases c:k<es'.length
   ·have hke:=k1 es'[k] (by simp);simp[c,dG,iQ,en,mf,fO,mr,fP,mw,fQ,fr,fR,fw,wf_,eE,fS,q1,p1,q2,p2,q3,p3,q4,p4,q5,p5,hm,fT,iD,jd,jN,lO,km,q6,p6,q7,p7,q8,p8,q9,p9,q10,iU,hf,dN,iE,je,jO,lQ,kf,q11,iV,q12,iW,q13,jB,q14,jC,q15,jP,hr,fU,iF,jf,jQ,lR,kr,q16,jR,q17,lS,q18,lT,q19,lU,q20,lV,hw,fV,iG,jg,jS,lW,kw];refine aA (UD (nx+1+1+1) m (nx+1) (by omega) (by omega) (by omega) 274 4 1 (en n (nx+1) r w (Fk k) R W) (Fk k) es'[k] (by simp) (by simp;omega) (hO k hk).nr.up (by have:=(hO k hk).len;omega) (fun e he=>by have:=(hO k hk).top e he;omega) (hH k c)) (by simp) (by simp[ay,en,mf,fO,mr,fP,mw,fQ,fr,fR,fw,wf_,eE,fS,q1,p1,q2,p2,q3,p3,q4,p4,q5,p5,hm,fT,iD,jd,jN,lO,km,q6,p6,q7,p7,q8,p8,q9,p9,q10,iU,hf,dN,iE,je,jO,lQ,kf,q11,iV,q12,iW,q13,jB,q14,jC,q15,jP,hr,fU,iF,jf,jQ,lR,kr,q16,jR,q17,lS,q18,lT,q19,lU,q20,lV,hw,fV,iG,jg,jS,lW,kw]) trivial rfl ?_;rw[<-hS k c];simp[en,mf,fO,mr,fP,mw,fQ,fr,fR,fw,wf_,eE,fS,q1,p1,q2,p2,q3,p3,q4,p4,q5,p5,hm,fT,iD,jd,jN,lO,km,q6,p6,q7,p7,q8,p8,q9,p9,q10,iU,hf,dN,iE,je,jO,lQ,kf,q11,iV,q12,iW,q13,jB,q14,jC,q15,jP,hr,fU,iF,jf,jQ,lR,kr,q16,jR,q17,lS,q18,lT,q19,lU,q20,lV,hw,fV,iG,jg,jS,lW,kw];refine⟨k+1,by omega,by omega,aB [(nx+1,nx+1+1+1)] ?_⟩;simp[dG,iQ,en,mf,fO,mr,fP,mw,fQ,fr,fR,fw,wf_,eE,fS,q1,p1,q2,p2,q3,p3,q4,p4,q5,p5,hm,fT,iD,jd,jN,lO,km,q6,p6,q7,p7,q8,p8,q9,p9,q10,iU,hf,dN,iE,je,jO,lQ,kf,q11,iV,q12,iW,q13,jB,q14,jC,q15,jP,hr,fU,iF,jf,jQ,lR,kr,q16,jR,q17,lS,q18,lT,q19,lU,q20,lV,hw,fV,iG,jg,jS,lW,kw,aD (n:=(k:Int)+1)]
   ·have e:k=es'.length:=by omega
    subst e;simp[dG,iQ,en,mf,fO,mr,fP,mw,fQ,fr,fR,fw,wf_,eE,fS,q1,p1,q2,p2,q3,p3,q4,p4,q5,p5,hm,fT,iD,jd,jN,lO,km,q6,p6,q7,p7,q8,p8,q9,p9,q10,iU,hf,dN,iE,je,jO,lQ,kf,q11,iV,q12,iW,q13,jB,q14,jC,q15,jP,hr,fU,iF,jf,jQ,lR,kr,q16,jR,q17,lS,q18,lT,q19,lU,q20,lV,hw,fV,iG,jg,jS,lW,kw,results173];exact⟨[(nx,nx+1)],by simp[en,mf,fO,mr,fP,mw,fQ,fr,fR,fw,wf_,eE,fS,q1,p1,q2,p2,q3,p3,q4,p4,q5,p5,hm,fT,iD,jd,jN,lO,km,q6,p6,q7,p7,q8,p8,q9,p9,q10,iU,hf,dN,iE,je,jO,lQ,kf,q11,iV,q12,iW,q13,jB,q14,jC,q15,jP,hr,fU,iF,jf,jQ,lR,kr,q16,jR,q17,lS,q18,lT,q19,lU,q20,lV,hw,fV,iG,jg,jS,lW,kw]⟩
theorem WE(m f r w nx n:Nat)(h:LZ m f r w nx)(hn:n<=65536)(F R W:List Ext)(hF:Ok n F)(hR:Ok n R)(hW:Ok n W)(es:List (Int×Int))(hl:es.length<=900):aE prog 151 [.obj m 0,.p (.sl (es.map Ga))] ⟨dG m f r w n F R W,[],nx⟩ (.p (.bool (pK n F W es))) ⟨dG m f r nx n F R (if pK n F W es=true then(es.map toE).foldl gy W else W),[],nx+1⟩:=by
 have hRt:=HP n (by omega) (kn F) (kn R) (kn W) es hl;have nF:=hF.Lx hn;have nR:=hR.Lx hn;have nW:=hW.Lx hn;obtain⟨hm,hf,hr,hw,mf,mr,mw,fr,fw,eE⟩:=h;have fO:=Ne.symm mf;have fP:=Ne.symm mr;have fQ:=Ne.symm mw;have fR:=Ne.symm fr;have wf_:=Ne.symm fw;have fS:=Ne.symm eE;obtain⟨q1,p1,q2,p2,q3,p3,q4,p4,q5,p5,fT,iD,jd,jN,lO,km,q6,p6,q7,p7,q8,p8,q9,p9,q10,iU,dN,iE,je,jO⟩:¬m=nx/\¬nx=m/\¬m=nx+1/\¬nx+1=m/\¬m=nx+1+1/\¬nx+1+1=m/\¬m=nx+1+1+1/\¬nx+1+1+1=m/\¬m=nx+1+1+1+1/\¬nx+1+1+1+1=m/\m<nx+1/\m<nx+1+1/\m<nx+1+1+1/\m<nx+1+1+1+1/\m<nx+1+1+1+1+1/\m<nx+5/\¬f=nx/\¬nx=f/\¬f=nx+1/\¬nx+1=f/\¬f=nx+1+1/\¬nx+1+1=f/\¬f=nx+1+1+1/\¬nx+1+1+1=f/\¬f=nx+1+1+1+1/\¬nx+1+1+1+1=f/\f<nx+1/\f<nx+1+1/\f<nx+1+1+1/\f<nx+1+1+1+1:=by and_intros<;>omega
 obtain⟨lQ,kf,q11,iV,q12,iW,q13,jB,q14,jC,q15,jP,fU,iF,jf,jQ,lR,kr,q16,jR,q17,lS,q18,lT,q19,lU,q20,lV,fV,iG⟩:f<nx+1+1+1+1+1/\f<nx+5/\¬r=nx/\¬nx=r/\¬r=nx+1/\¬nx+1=r/\¬r=nx+1+1/\¬nx+1+1=r/\¬r=nx+1+1+1/\¬nx+1+1+1=r/\¬r=nx+1+1+1+1/\¬nx+1+1+1+1=r/\r<nx+1/\r<nx+1+1/\r<nx+1+1+1/\r<nx+1+1+1+1/\r<nx+1+1+1+1+1/\r<nx+5/\¬w=nx/\¬nx=w/\¬w=nx+1/\¬nx+1=w/\¬w=nx+1+1/\¬nx+1+1=w/\¬w=nx+1+1+1/\¬nx+1+1+1=w/\¬w=nx+1+1+1+1/\¬nx+1+1+1+1=w/\w<nx+1/\w<nx+1+1:=by and_intros<;>omega
 obtain⟨jg,jS,lW,kw⟩:w<nx+1+1+1/\w<nx+1+1+1+1/\w<nx+1+1+1+1+1/\w<nx+5:=by and_intros<;>omega
 have hbm:∀bx k,lk m bx=some (iQ n f r w F R W)->lk f bx=some (cg F)->lk r bx=some (cg R)->lk w bx=some (cg W)->cQ bx (k+2) (.obj m 0) (.ref (yF n F R W)):=fun bx k a b c d=>HQ a b c d;refine ah (rs:=[_]) [2] [(6,[(0,.r 1),(3,.r 2),(4,.w [1,2])])] [(1,nx),(2,nx+1+1)] func151 rfl ?_;simp[dG,iQ,en,mf,fO,mr,fP,mw,fQ,fr,fR,fw,wf_,eE,fS,q1,p1,q2,p2,q3,p3,q4,p4,q5,p5,hm,fT,iD,jd,jN,lO,km,q6,p6,q7,p7,q8,p8,q9,p9,q10,iU,hf,dN,iE,je,jO,lQ,kf,q11,iV,q12,iW,q13,jB,q14,jC,q15,jP,hr,fU,iF,jf,jQ,lR,kr,q16,jR,q17,lS,q18,lT,q19,lU,q20,lV,hw,fV,iG,jg,jS,lW,kw];refine bD hRt ⟨hbm _ _ (by simp[mf,fO,mr,fP,mw,fQ,fr,fR,fw,wf_,eE,fS,q1,p1,q2,p2,q3,p3,q4,p4,q5,p5,hm,fT,iD,jd,jN,lO,km,q6,p6,q7,p7,q8,p8,q9,p9,q10,iU,hf,dN,iE,je,jO,lQ,kf,q11,iV,q12,iW,q13,jB,q14,jC,q15,jP,hr,fU,iF,jf,jQ,lR,kr,q16,jR,q17,lS,q18,lT,q19,lU,q20,lV,hw,fV,iG,jg,jS,lW,kw]) (by simp[mf,fO,mr,fP,mw,fQ,fr,fR,fw,wf_,eE,fS,q1,p1,q2,p2,q3,p3,q4,p4,q5,p5,hm,fT,iD,jd,jN,lO,km,q6,p6,q7,p7,q8,p8,q9,p9,q10,iU,hf,dN,iE,je,jO,lQ,kf,q11,iV,q12,iW,q13,jB,q14,jC,q15,jP,hr,fU,iF,jf,jQ,lR,kr,q16,jR,q17,lS,q18,lT,q19,lU,q20,lV,hw,fV,iG,jg,jS,lW,kw]) (by simp[mf,fO,mr,fP,mw,fQ,fr,fR,fw,wf_,eE,fS,q1,p1,q2,p2,q3,p3,q4,p4,q5,p5,hm,fT,iD,jd,jN,lO,km,q6,p6,q7,p7,q8,p8,q9,p9,q10,iU,hf,dN,iE,je,jO,lQ,kf,q11,iV,q12,iW,q13,jB,q14,jC,q15,jP,hr,fU,iF,jf,jQ,lR,kr,q16,jR,q17,lS,q18,lT,q19,lU,q20,lV,hw,fV,iG,jg,jS,lW,kw]) (by simp[mf,fO,mr,fP,mw,fQ,fr,fR,fw,wf_,eE,fS,q1,p1,q2,p2,q3,p3,q4,p4,q5,p5,hm,fT,iD,jd,jN,lO,km,q6,p6,q7,p7,q8,p8,q9,p9,q10,iU,hf,dN,iE,je,jO,lQ,kf,q11,iV,q12,iW,q13,jB,q14,jC,q15,jP,hr,fU,iF,jf,jQ,lR,kr,q16,jR,q17,lS,q18,lT,q19,lU,q20,lV,hw,fV,iG,jg,jS,lW,kw]),by simp[cQ],trivial⟩ rfl ?_;cases hr:jj n [] es with
 |false=>
  have hB:pK n F W es=false:=by unfold pK;rw[hr];rfl
  simp[hB,results151];exact⟨[(nx,w)],by simp[en,mf,fO,mr,fP,mw,fQ,fr,fR,fw,wf_,eE,fS,q1,p1,q2,p2,q3,p3,q4,p4,q5,p5,hm,fT,iD,jd,jN,lO,km,q6,p6,q7,p7,q8,p8,q9,p9,q10,iU,hf,dN,iE,je,jO,lQ,kf,q11,iV,q12,iW,q13,jB,q14,jC,q15,jP,hr,fU,iF,jf,jQ,lR,kr,q16,jR,q17,lS,q18,lT,q19,lU,q20,lV,hw,fV,iG,jg,jS,lW,kw]⟩
 |true=>
  obtain⟨g1,g2,g3⟩:=oq es [] qp hr;generalize hes:es.map toE=es' at*;have hlen:es.length=es'.length:=by rw[<-hes];simp
  rw[g1];have hC:=yG (g:=245) (caps:=[.ref (.ref (yF n F R W))]) (fun e=>uO F e||uO W e) es' (by omega) (fun e he=>RG n F R W e nF nW (by have:=(g2 e he).2.1;omega));simp[mf,fO,mr,fP,mw,fQ,fr,fR,fw,wf_,eE,fS,q1,p1,q2,p2,q3,p3,q4,p4,q5,p5,hm,fT,iD,jd,jN,lO,km,q6,p6,q7,p7,q8,p8,q9,p9,q10,iU,hf,dN,iE,je,jO,lQ,kf,q11,iV,q12,iW,q13,jB,q14,jC,q15,jP,hr,fU,iF,jf,jQ,lR,kr,q16,jR,q17,lS,q18,lT,q19,lU,q20,lV,hw,fV,iG,jg,jS,lW,kw];refine bD hC ⟨by simp[cQ],⟨rfl,⟨⟨148,1,[.obj m 0]⟩,.obj m 0,by simp[mf,fO,mr,fP,mw,fQ,fr,fR,fw,wf_,eE,fS,q1,p1,q2,p2,q3,p3,q4,p4,q5,p5,hm,fT,iD,jd,jN,lO,km,q6,p6,q7,p7,q8,p8,q9,p9,q10,iU,hf,dN,iE,je,jO,lQ,kf,q11,iV,q12,iW,q13,jB,q14,jC,q15,jP,hr,fU,iF,jf,jQ,lR,kr,q16,jR,q17,lS,q18,lT,q19,lU,q20,lV,hw,fV,iG,jg,jS,lW,kw],rfl,rfl,hbm _ _ (by simp[mf,fO,mr,fP,mw,fQ,fr,fR,fw,wf_,eE,fS,q1,p1,q2,p2,q3,p3,q4,p4,q5,p5,hm,fT,iD,jd,jN,lO,km,q6,p6,q7,p7,q8,p8,q9,p9,q10,iU,hf,dN,iE,je,jO,lQ,kf,q11,iV,q12,iW,q13,jB,q14,jC,q15,jP,hr,fU,iF,jf,jQ,lR,kr,q16,jR,q17,lS,q18,lT,q19,lU,q20,lV,hw,fV,iG,jg,jS,lW,kw]) (by simp[mf,fO,mr,fP,mw,fQ,fr,fR,fw,wf_,eE,fS,q1,p1,q2,p2,q3,p3,q4,p4,q5,p5,hm,fT,iD,jd,jN,lO,km,q6,p6,q7,p7,q8,p8,q9,p9,q10,iU,hf,dN,iE,je,jO,lQ,kf,q11,iV,q12,iW,q13,jB,q14,jC,q15,jP,hr,fU,iF,jf,jQ,lR,kr,q16,jR,q17,lS,q18,lT,q19,lU,q20,lV,hw,fV,iG,jg,jS,lW,kw]) (by simp[mf,fO,mr,fP,mw,fQ,fr,fR,fw,wf_,eE,fS,q1,p1,q2,p2,q3,p3,q4,p4,q5,p5,hm,fT,iD,jd,jN,lO,km,q6,p6,q7,p7,q8,p8,q9,p9,q10,iU,hf,dN,iE,je,jO,lQ,kf,q11,iV,q12,iW,q13,jB,q14,jC,q15,jP,hr,fU,iF,jf,jQ,lR,kr,q16,jR,q17,lS,q18,lT,q19,lU,q20,lV,hw,fV,iG,jg,jS,lW,kw]) (by simp[mf,fO,mr,fP,mw,fQ,fr,fR,fw,wf_,eE,fS,q1,p1,q2,p2,q3,p3,q4,p4,q5,p5,hm,fT,iD,jd,jN,lO,km,q6,p6,q7,p7,q8,p8,q9,p9,q10,iU,hf,dN,iE,je,jO,lQ,kf,q11,iV,q12,iW,q13,jB,q14,jC,q15,jP,hr,fU,iF,jf,jQ,lR,kr,q16,jR,q17,lS,q18,lT,q19,lU,q20,lV,hw,fV,iG,jg,jS,lW,kw])⟩,trivial⟩,trivial⟩ rfl ?_;cases ha:es'.any (fun e=>uO F e||uO W e)with
  |true=>
   have hB:pK n F W es=false:=by unfold pK;rw[hr,hes,ha];rfl
   simp[hB,results151];exact⟨[(nx,w)],by simp[en,mf,fO,mr,fP,mw,fQ,fr,fR,fw,wf_,eE,fS,q1,p1,q2,p2,q3,p3,q4,p4,q5,p5,hm,fT,iD,jd,jN,lO,km,q6,p6,q7,p7,q8,p8,q9,p9,q10,iU,hf,dN,iE,je,jO,lQ,kf,q11,iV,q12,iW,q13,jB,q14,jC,q15,jP,hr,fU,iF,jf,jQ,lR,kr,q16,jR,q17,lS,q18,lT,q19,lU,q20,lV,hw,fV,iG,jg,jS,lW,kw]⟩
  |false=>
   have hB:pK n F W es=true:=by unfold pK;rw[hr,hes,ha];rfl
   rw[List.any_eq_false]at ha;have Aj:=tK hW (es:=es') (fun e he=>⟨(g2 e he).1,(g2 e he).2.1,fun s hs hm=>by have h1:=ha e he;simp at h1;have:=(sk hW.nr e (g2 e he).1).2 ⟨s,hs,hm⟩;rw[h1.2]at this;cases this⟩) g3;rw[hB];simp[mf,fO,mr,fP,mw,fQ,fr,fR,fw,wf_,eE,fS,q1,p1,q2,p2,q3,p3,q4,p4,q5,p5,hm,fT,iD,jd,jN,lO,km,q6,p6,q7,p7,q8,p8,q9,p9,q10,iU,hf,dN,iE,je,jO,lQ,kf,q11,iV,q12,iW,q13,jB,q14,jC,q15,jP,hr,fU,iF,jf,jQ,lR,kr,q16,jR,q17,lS,q18,lT,q19,lU,q20,lV,hw,fV,iG,jg,jS,lW,kw];obtain⟨Fk,Cc⟩:∃Fk:Nat->List Ext,Fk=fun k=>(es'.take k).foldl gy W:=⟨_,rfl⟩;have h0:Fk 0=W:=by rw[Cc];simp
   have hL:Fk es'.length=es'.foldl gy W:=by rw[Cc];simp
   have hS:∀k (hk:k<es'.length),Fk (k+1)=gy (Fk k) es'[k]:=by intro k hk;rw[Cc];simp only;rw[iA hk,List.foldl_append];rfl
   have hO:∀k,k<=es'.length->Ok n (Fk k):=fun k hk=>by rw[Cc];exact(Aj k hk).1
   have hH:∀k (hk:k<es'.length),uO (Fk k) es'[k]=false:=fun k hk=>by rw[Cc];exact(Aj k (by omega)).2.2 hk
   rw[<-hL];clear Aj Cc;refine aL (fun k:Nat=>k<=es'.length) (fun k=>[(2,.obj nx 0),(16,.p (kn es')),(17,.p (.int es'.length)),(18,.p (.int k))]) (fun k=>⟨(nx,⟨148,1,[.obj m 0]⟩)::dG m f r (nx+1) n F R (Fk k),[],nx+1+1⟩) (fun k=>es'.length-k) 0 (by simp) _ (AS.le_refl _ _) (aB [(nx+1,w)] (by simp[dG,iQ,en,h0,mf,fO,mr,fP,mw,fQ,fr,fR,fw,wf_,eE,fS,q1,p1,q2,p2,q3,p3,q4,p4,q5,p5,hm,fT,iD,jd,jN,lO,km,q6,p6,q7,p7,q8,p8,q9,p9,q10,iU,hf,dN,iE,je,jO,lQ,kf,q11,iV,q12,iW,q13,jB,q14,jC,q15,jP,hr,fU,iF,jf,jQ,lR,kr,q16,jR,q17,lS,q18,lT,q19,lU,q20,lV,hw,fV,iG,jg,jS,lW,kw])) ?_;intro k hk;have k1:∀e∈es',1<=e.2/\e.1+e.2<=n:=fun e he=>⟨(g2 e he).1,(g2 e he).2.1⟩;by_cases c:k<es'.length
   ·have hke:=k1 es'[k] (by simp);simp[c,dG,iQ,en,mf,fO,mr,fP,mw,fQ,fr,fR,fw,wf_,eE,fS,q1,p1,q2,p2,q3,p3,q4,p4,q5,p5,hm,fT,iD,jd,jN,lO,km,q6,p6,q7,p7,q8,p8,q9,p9,q10,iU,hf,dN,iE,je,jO,lQ,kf,q11,iV,q12,iW,q13,jB,q14,jC,q15,jP,hr,fU,iF,jf,jQ,lR,kr,q16,jR,q17,lS,q18,lT,q19,lU,q20,lV,hw,fV,iG,jg,jS,lW,kw];refine aA (HR (nx+1+1+1) m (nx+1) (by omega) (by omega) (by omega) 274 4 3 (en n f r (nx+1) F R (Fk k)) (Fk k) es'[k] (by simp) (by simp;omega) (hO k hk).nr.up (by have:=(hO k hk).len;omega) (fun e he=>by have:=(hO k hk).top e he;omega) (by omega)) (by simp) (by simp[ay,en,mf,fO,mr,fP,mw,fQ,fr,fR,fw,wf_,eE,fS,q1,p1,q2,p2,q3,p3,q4,p4,q5,p5,hm,fT,iD,jd,jN,lO,km,q6,p6,q7,p7,q8,p8,q9,p9,q10,iU,hf,dN,iE,je,jO,lQ,kf,q11,iV,q12,iW,q13,jB,q14,jC,q15,jP,hr,fU,iF,jf,jQ,lR,kr,q16,jR,q17,lS,q18,lT,q19,lU,q20,lV,hw,fV,iG,jg,jS,lW,kw]) trivial rfl ?_;rw[<-hS k c];simp[en,mf,fO,mr,fP,mw,fQ,fr,fR,fw,wf_,eE,fS,q1,p1,q2,p2,q3,p3,q4,p4,q5,p5,hm,fT,iD,jd,jN,lO,km,q6,p6,q7,p7,q8,p8,q9,p9,q10,iU,hf,dN,iE,je,jO,lQ,kf,q11,iV,q12,iW,q13,jB,q14,jC,q15,jP,hr,fU,iF,jf,jQ,lR,kr,q16,jR,q17,lS,q18,lT,q19,lU,q20,lV,hw,fV,iG,jg,jS,lW,kw];refine⟨k+1,by omega,by omega,aB [(nx+1,nx+1+1+1)] ?_⟩;simp[dG,iQ,en,mf,fO,mr,fP,mw,fQ,fr,fR,fw,wf_,eE,fS,q1,p1,q2,p2,q3,p3,q4,p4,q5,p5,hm,fT,iD,jd,jN,lO,km,q6,p6,q7,p7,q8,p8,q9,p9,q10,iU,hf,dN,iE,je,jO,lQ,kf,q11,iV,q12,iW,q13,jB,q14,jC,q15,jP,hr,fU,iF,jf,jQ,lR,kr,q16,jR,q17,lS,q18,lT,q19,lU,q20,lV,hw,fV,iG,jg,jS,lW,kw,aD (n:=(k:Int)+1)]
   ·have e:k=es'.length:=by omega
    subst e;simp[dG,iQ,en,mf,fO,mr,fP,mw,fQ,fr,fR,fw,wf_,eE,fS,q1,p1,q2,p2,q3,p3,q4,p4,q5,p5,hm,fT,iD,jd,jN,lO,km,q6,p6,q7,p7,q8,p8,q9,p9,q10,iU,hf,dN,iE,je,jO,lQ,kf,q11,iV,q12,iW,q13,jB,q14,jC,q15,jP,hr,fU,iF,jf,jQ,lR,kr,q16,jR,q17,lS,q18,lT,q19,lU,q20,lV,hw,fV,iG,jg,jS,lW,kw,results151];exact⟨[(nx,nx+1)],by simp[en,mf,fO,mr,fP,mw,fQ,fr,fR,fw,wf_,eE,fS,q1,p1,q2,p2,q3,p3,q4,p4,q5,p5,hm,fT,iD,jd,jN,lO,km,q6,p6,q7,p7,q8,p8,q9,p9,q10,iU,hf,dN,iE,je,jO,lQ,kf,q11,iV,q12,iW,q13,jB,q14,jC,q15,jP,hr,fU,iF,jf,jQ,lR,kr,q16,jR,q17,lS,q18,lT,q19,lU,q20,lV,hw,fV,iG,jg,jS,lW,kw]⟩
theorem UL{L:List Ext}(h:Nr L):Dj L:=h.gap.imp fun h s hs vT=>by unfold jc at hs vT;omega
theorem tU(m f r w nx n:Nat)(h:LZ m f r w nx)(hn:n<=65536)(F R W:List Ext)(hF:Ok n F)(hS:Ok n W)(hd:∀s,mem F s->¬mem W s):aE prog 76 [.obj m 0] ⟨dG m f r w n F R W,[],nx⟩ (.agg true []) ⟨dG m nx (nx+1) (nx+2) n (W.foldl gy F) [] [],[],nx+3⟩:=by
 have hSl:W.length<=65536:=by have:=hS.len;omega
 have Aj:=tK hF (es:=W) (fun e he=>⟨hS.nr.pos e he,hS.top e he,fun s hs hm=>hd s hm ⟨e,he,hs⟩⟩) (UL hS.nr);obtain⟨Fk,Cc⟩:∃Fk:Nat->List Ext,Fk=fun k=>(W.take k).foldl gy F:=⟨_,rfl⟩;have h0:Fk 0=F:=by rw[Cc];simp
 have hL:Fk W.length=W.foldl gy F:=by rw[Cc];simp
 have hSt:∀k (hk:k<W.length),Fk (k+1)=gy (Fk k) W[k]:=by intro k hk;rw[Cc];simp only;rw[iA hk,List.foldl_append];rfl
 have hO:∀k,k<=W.length->Ok n (Fk k):=fun k hk=>by rw[Cc];exact(Aj k hk).1
 rw[<-hL];clear Aj Cc;have key:aE prog 76 [.obj m 0] ⟨dG m f r w n F R W,[],nx⟩ (.agg true []) ⟨[(m,⟨274,4,[.p (.int n),.view nx 0 (Fk W.length).length 2 none,.p .nil,.p .nil]⟩),(nx,cg (Fk W.length))],[],nx+1⟩:=by
  obtain⟨hm,hf,hr,hw,mf,mr,mw,fr,fw,eE⟩:=h;have fO:=Ne.symm mf;have fP:=Ne.symm mr;have fQ:=Ne.symm mw;have fR:=Ne.symm fr;have wf_:=Ne.symm fw;have fS:=Ne.symm eE;obtain⟨q1,p1,q2,p2,q3,p3,q4,p4,fT,iD,jd,jN,km,q5,p5,q6,p6,q7,p7,q8,p8,dN,iE,je,jO,kf,q9,p9,q10,iU⟩:¬m=nx/\¬nx=m/\¬m=nx+1/\¬nx+1=m/\¬m=nx+1+1/\¬nx+1+1=m/\¬m=nx+1+1+1/\¬nx+1+1+1=m/\m<nx+1/\m<nx+1+1/\m<nx+1+1+1/\m<nx+1+1+1+1/\m<nx+4/\¬f=nx/\¬nx=f/\¬f=nx+1/\¬nx+1=f/\¬f=nx+1+1/\¬nx+1+1=f/\¬f=nx+1+1+1/\¬nx+1+1+1=f/\f<nx+1/\f<nx+1+1/\f<nx+1+1+1/\f<nx+1+1+1+1/\f<nx+4/\¬r=nx/\¬nx=r/\¬r=nx+1/\¬nx+1=r:=by and_intros<;>omega
  obtain⟨q11,iV,q12,iW,fU,iF,jf,jQ,kr,q13,jB,q14,jC,q15,jP,q16,jR,fV,iG,jg,jS,kw⟩:¬r=nx+1+1/\¬nx+1+1=r/\¬r=nx+1+1+1/\¬nx+1+1+1=r/\r<nx+1/\r<nx+1+1/\r<nx+1+1+1/\r<nx+1+1+1+1/\r<nx+4/\¬w=nx/\¬nx=w/\¬w=nx+1/\¬nx+1=w/\¬w=nx+1+1/\¬nx+1+1=w/\¬w=nx+1+1+1/\¬nx+1+1+1=w/\w<nx+1/\w<nx+1+1/\w<nx+1+1+1/\w<nx+1+1+1+1/\w<nx+4:=by and_intros<;>omega
  refine ah (rs:=[]) [] [(3,[(3,.r 1),(4,.w [1])])] [(1,nx+1)] func76 rfl ?_;simp[dG,iQ,en,mf,fO,mr,fP,mw,fQ,fr,fR,fw,wf_,eE,fS,q1,p1,q2,p2,q3,p3,q4,p4,hm,fT,iD,jd,jN,km,q5,p5,q6,p6,q7,p7,q8,p8,hf,dN,iE,je,jO,kf,q9,p9,q10,iU,q11,iV,q12,iW,hr,fU,iF,jf,jQ,kr,q13,jB,q14,jC,q15,jP,q16,jR,hw,fV,iG,jg,jS,kw];refine aL (fun k:Nat=>k<=W.length) (fun k=>[(0,.obj m 0),(7,.view w 0 W.length 2 none),(8,.p (.int W.length)),(9,.p (.int k))]) (fun k=>⟨dG m nx r w n (Fk k) R W,[],nx+1⟩) (fun k=>W.length-k) 0 (by simp) _ (AS.le_refl _ _) (aB [(nx,f)] (by simp[dG,iQ,en,h0,mf,fO,mr,fP,mw,fQ,fr,fR,fw,wf_,eE,fS,q1,p1,q2,p2,q3,p3,q4,p4,hm,fT,iD,jd,jN,km,q5,p5,q6,p6,q7,p7,q8,p8,hf,dN,iE,je,jO,kf,q9,p9,q10,iU,q11,iV,q12,iW,hr,fU,iF,jf,jQ,kr,q13,jB,q14,jC,q15,jP,q16,jR,hw,fV,iG,jg,jS,kw])) ?_;intro k hk;by_cases c:k<W.length
  ·have yT:(((cV W).map AV.p).drop (k*2)).take 2=[.p (.int W[k].1),.p (.int W[k].2)]:=by
    rw[<-List.map_drop,nH,show W.drop k=W[k]::W.drop (k+1)from List.drop_eq_getElem_cons c,dB];simp only[List.map_cons,List.take_succ_cons,List.take_zero]
   have h2:k*2+2<=W.length*2:=by omega
   have ht:=hS.top W[k] (by simp);simp[c,dG,iQ,en,yT,h2,mf,fO,mr,fP,mw,fQ,fr,fR,fw,wf_,eE,fS,q1,p1,q2,p2,q3,p3,q4,p4,hm,fT,iD,jd,jN,km,q5,p5,q6,p6,q7,p7,q8,p8,hf,dN,iE,je,jO,kf,q9,p9,q10,iU,q11,iV,q12,iW,hr,fU,iF,jf,jQ,kr,q13,jB,q14,jC,q15,jP,q16,jR,hw,fV,iG,jg,jS,kw];refine aA (HR (nx+1+1) m nx (by omega) (by omega) (by omega) 274 4 1 (en n nx r w (Fk k) R W) (Fk k) W[k] (by simp) (by simp;omega) (hO k hk).nr.up (by have:=(hO k hk).len;omega) (fun e he=>by have:=(hO k hk).top e he;omega) (by omega)) (by simp) (by simp[ay,en,mf,fO,mr,fP,mw,fQ,fr,fR,fw,wf_,eE,fS,q1,p1,q2,p2,q3,p3,q4,p4,hm,fT,iD,jd,jN,km,q5,p5,q6,p6,q7,p7,q8,p8,hf,dN,iE,je,jO,kf,q9,p9,q10,iU,q11,iV,q12,iW,hr,fU,iF,jf,jQ,kr,q13,jB,q14,jC,q15,jP,q16,jR,hw,fV,iG,jg,jS,kw]) trivial rfl ?_;rw[<-hSt k c];simp[en,mf,fO,mr,fP,mw,fQ,fr,fR,fw,wf_,eE,fS,q1,p1,q2,p2,q3,p3,q4,p4,hm,fT,iD,jd,jN,km,q5,p5,q6,p6,q7,p7,q8,p8,hf,dN,iE,je,jO,kf,q9,p9,q10,iU,q11,iV,q12,iW,hr,fU,iF,jf,jQ,kr,q13,jB,q14,jC,q15,jP,q16,jR,hw,fV,iG,jg,jS,kw];refine⟨k+1,by omega,by omega,aB [(nx,nx+1+1)] ?_⟩;simp[dG,iQ,en,mf,fO,mr,fP,mw,fQ,fr,fR,fw,wf_,eE,fS,q1,p1,q2,p2,q3,p3,q4,p4,hm,fT,iD,jd,jN,km,q5,p5,q6,p6,q7,p7,q8,p8,hf,dN,iE,je,jO,kf,q9,p9,q10,iU,q11,iV,q12,iW,hr,fU,iF,jf,jQ,kr,q13,jB,q14,jC,q15,jP,q16,jR,hw,fV,iG,jg,jS,kw,aD (n:=(k:Int)+1)]
  ·have e:k=W.length:=by omega
   subst e;simp[dG,iQ,en,mf,fO,mr,fP,mw,fQ,fr,fR,fw,wf_,eE,fS,q1,p1,q2,p2,q3,p3,q4,p4,hm,fT,iD,jd,jN,km,q5,p5,q6,p6,q7,p7,q8,p8,hf,dN,iE,je,jO,kf,q9,p9,q10,iU,q11,iV,q12,iW,hr,fU,iF,jf,jQ,kr,q13,jB,q14,jC,q15,jP,q16,jR,hw,fV,iG,jg,jS,kw,results76];exact⟨[],by simp[en,mf,fO,mr,fP,mw,fQ,fr,fR,fw,wf_,eE,fS,q1,p1,q2,p2,q3,p3,q4,p4,hm,fT,iD,jd,jN,km,q5,p5,q6,p6,q7,p7,q8,p8,hf,dN,iE,je,jO,kf,q9,p9,q10,iU,q11,iV,q12,iW,hr,fU,iF,jf,jQ,kr,q13,jB,q14,jC,q15,jP,q16,jR,hw,fV,iG,jg,jS,kw]⟩
 have alZ:=h.hm;have q1:¬m=nx:=by omega
 have q2:¬m=nx+1:=by omega
 have q3:¬m=nx+2:=by omega
 have k2:aE prog 76 [.obj m 0] ⟨dG m f r w n F R W,[],nx⟩ (.agg true []) ⟨[(m,⟨274,4,[.p (.int n),.view nx 0 (Fk W.length).length 2 none,.view (nx+1) 0 0 2 none,.p .nil]⟩),(nx+1,cg []),(nx,cg (Fk W.length))],[],nx+2⟩:=by
  have t:=oa (id:=m) (j:=2) (ob:=⟨274,4,[.p (.int n),.view nx 0 (Fk W.length).length 2 none,.p .nil,.p .nil]⟩) 157 2 key (by simp[lk]) rfl;simp[Tb.aP,Tb.aS,del,q1,q2,q3]at t;exact t
 have k3:aE prog 76 [.obj m 0] ⟨dG m f r w n F R W,[],nx⟩ (.agg true []) ⟨[(m,⟨274,4,[.p (.int n),.view nx 0 (Fk W.length).length 2 none,.view (nx+1) 0 0 2 none,.view (nx+2) 0 0 2 none]⟩),(nx+2,cg []),(nx+1,cg []),(nx,cg (Fk W.length))],[],nx+3⟩:=by
  have t:=oa (id:=m) (j:=3) (ob:=⟨274,4,[.p (.int n),.view nx 0 (Fk W.length).length 2 none,.view (nx+1) 0 0 2 none,.p .nil]⟩) 157 2 k2 (by simp[lk]) rfl;simp[Tb.aP,Tb.aS,del,q1,q2,q3]at t;exact t
 refine xA k3 (fun i o ho=>?_) (fun i o ho=>ho) (Nat.le_refl _);simp only[dG,iQ,en,lk]at ho⊢;split at ho
 ·rename_i h;rw[if_pos h];exact ho
 ·rename_i QH;rw[if_neg QH];split at ho
  ·rename_i h;subst h;simp;simpa using ho
  ·split at ho
   ·rename_i h;subst h;simp;simpa using ho
   ·split at ho
    ·rename_i h;subst h;simp;simpa using ho
    ·cases ho
theorem Mr:dP prog 312:=⟨Tryz.f312,func312,by kernel_rfl,by kernel_rfl⟩
theorem Ra(nx id:Nat)(hid:id<nx)(L:List Ext)(hl:L.length<=65536):aE prog 312 [.view id 0 L.length 2 none] ⟨[(id,cg L)],[],nx⟩ (.view nx 0 L.length 2 none) ⟨[(id,cg L),(nx,cg L)],[],nx+1⟩:=by
 have hne:¬id=nx:=by omega
 have eX:¬nx=id:=by omega
 have hlt:id<nx+1:=by omega
 have oK:List.take (L.length*2) ((cV L).map AV.p)=(cV L).map AV.p:=fY (by simp);refine yg (pre:=[]) (post:=[]) Mr (fun c h1 h2 h3=>?_) ?_
 ·obtain⟨c,rfl⟩:∃d,c=d+1:=⟨c-1,by omega⟩;refine ah (rs:=[_]) [7] [] [] func312 rfl ?_;simp[results312,hne,eX];exact⟨by omega,by omega,[],by simp[hne,eX,hlt,oK]⟩
 ·intro hn;have hL:L=[]:=mB hn;subst hL;refine qR (pre:=[]) (post:=[]) Mr (fun _=>?_) ?_
  ·have key:aE prog 312 [.p .nil] ⟨[(id,cg [])],[],nx⟩ (.p .nil) ⟨[(id,cg [])],[],nx⟩:=by
    refine ah (rs:=[.p .nil]) [7] [] [] func312 rfl ?_;simp[results312];exact⟨[],by simp[hne,eX,hid]⟩
   have:=fG (el:=157) (s:=2) key trivial;refine xA this (fun i o ho=>?_) (fun i o ho=>ho) (Nat.le_refl _);simp only[Tb.aS,lk]at ho⊢;split at ho
   ·rename_i h;subst h;rw[if_neg hne];simpa using ho
   ·split at ho
    ·rename_i h;rw[if_pos h];exact ho
    ·cases ho
  ·refine ah (rs:=[_]) [7] [] [] func312 rfl ?_;simp[results312,hne,eX];exact⟨[],by simp[hne,eX,hlt]⟩
theorem Wb(m f r w nx n:Nat)(h:LZ m f r w nx)(F R W:List Ext)(hl:F.length<=65536):aE prog 232 [.obj m 0] ⟨dG m f r w n F R W,[],nx⟩ (.view nx 0 F.length 2 none) ⟨(nx,cg F)::dG m f r w n F R W,[],nx+1⟩:=by
 obtain⟨hm,hf,hr,hw,mf,mr,mw,fr,fw,eE⟩:=h;have fO:=Ne.symm mf;have fP:=Ne.symm mr;have fQ:=Ne.symm mw;have fR:=Ne.symm fr;have wf_:=Ne.symm fw;have fS:=Ne.symm eE;obtain⟨q1,p1,q2,p2,q3,p3,fT,iD,jd,km,q4,p4,q5,p5,q6,p6,dN,iE,je,kf,q7,p7,q8,p8,q9,p9,fU,iF,jf,kr⟩:¬m=nx/\¬nx=m/\¬m=nx+1/\¬nx+1=m/\¬m=nx+1+1/\¬nx+1+1=m/\m<nx+1/\m<nx+1+1/\m<nx+1+1+1/\m<nx+3/\¬f=nx/\¬nx=f/\¬f=nx+1/\¬nx+1=f/\¬f=nx+1+1/\¬nx+1+1=f/\f<nx+1/\f<nx+1+1/\f<nx+1+1+1/\f<nx+3/\¬r=nx/\¬nx=r/\¬r=nx+1/\¬nx+1=r/\¬r=nx+1+1/\¬nx+1+1=r/\r<nx+1/\r<nx+1+1/\r<nx+1+1+1/\r<nx+3:=by and_intros<;>omega
 obtain⟨q10,iU,q11,iV,q12,iW,fV,iG,jg,kw⟩:¬w=nx/\¬nx=w/\¬w=nx+1/\¬nx+1=w/\¬w=nx+1+1/\¬nx+1+1=w/\w<nx+1/\w<nx+1+1/\w<nx+1+1+1/\w<nx+3:=by and_intros<;>omega
 refine ah (rs:=[_]) [] [] [] func232 rfl ?_;simp[dG,iQ,en,mf,fO,mr,fP,mw,fQ,fr,fR,fw,wf_,eE,fS,q1,p1,q2,p2,q3,p3,hm,fT,iD,jd,km,q4,p4,q5,p5,q6,p6,hf,dN,iE,je,kf,q7,p7,q8,p8,q9,p9,hr,fU,iF,jf,kr,q10,iU,q11,iV,q12,iW,hw,fV,iG,jg,kw];refine aA (Ra nx f hf F hl) (by simp) (by simp[ay,mf,fO,mr,fP,mw,fQ,fr,fR,fw,wf_,eE,fS,q1,p1,q2,p2,q3,p3,hm,fT,iD,jd,km,q4,p4,q5,p5,q6,p6,hf,dN,iE,je,kf,q7,p7,q8,p8,q9,p9,hr,fU,iF,jf,kr,q10,iU,q11,iV,q12,iW,hw,fV,iG,jg,kw]) trivial rfl ?_;simp[results232];exact⟨[],by simp[en,mf,fO,mr,fP,mw,fQ,fr,fR,fw,wf_,eE,fS,q1,p1,q2,p2,q3,p3,hm,fT,iD,jd,km,q4,p4,q5,p5,q6,p6,hf,dN,iE,je,kf,q7,p7,q8,p8,q9,p9,hr,fU,iF,jf,kr,q10,iU,q11,iV,q12,iW,hw,fV,iG,jg,kw]⟩
end Go.Av
namespace Go.aT
theorem uC(f:Nat->Int):∀(d n i j:Nat),j-i<=d->j-i<=n->Ci f n i j=Ci f d i j
 |0,0,_,_,_,_=>rfl
 |0,n+1,i,j,h,_=>by unfold Ci;rw[if_neg (by omega)]
 |d+1,0,i,j,_,h=>by unfold Ci;rw[if_neg (by omega)]
 |d+1,n+1,i,j,h1,h2=>by
  unfold Ci;by_cases c:i<j
  ·rw[if_pos c,if_pos c];split
   ·exact uC f d n _ _ (by omega) (by omega)
   ·exact uC f d n _ _ (by omega) (by omega)
  ·rw[if_neg c,if_neg c]
end Go.aT
namespace Go.Av
open Go.Proofs Go.Proofs.Tryz Go.aT
theorem Gb(g:FuncId)(key:List UInt8)(f:Kn->Int)(l:List Kn)(hl:l.length<=1000000)(hg:∀x∈l,aq prog g [RS x,.str key] (.int (f x)))(c:Nat->Int)(hc:∀i (h:i<l.length),c i=f l[i]):aq prog 154 [.sl (l.map RS),.str key,.fn (.func g) []] (.tp [.int (Ci c l.length 0 l.length),.bool (decide (Ci c l.length 0 l.length<l.length)&&(c (Ci c l.length 0 l.length)==0))]):=by
 refine ai (ys:=[_,_]) [] [] [] func154 rfl ?_;simp;obtain⟨R,hR⟩:∃R,Ci c l.length 0 l.length=R:=⟨_,rfl⟩;rw[hR];refine bg (fun ij:Nat×Nat=>ij.1<=ij.2/\ij.2<=l.length/\Ci c (ij.2-ij.1) ij.1 ij.2=R) (fun ij=>[(0,.p (.sl (l.map RS))),(1,.p (.str key)),(2,.p (.fn (.func g) [])),(8,.p (.int l.length)),(9,.p (.int ij.1)),(10,.p (.int ij.2))]) (fun ij=>ij.2-ij.1) (0,l.length) ⟨by simp,by simp,by simpa using hR⟩ (ak (by simp)) ?_;rintro⟨i,j⟩ ⟨h1,h2,h3⟩;simp only at h1 h2 h3;by_cases c1:i<j
 ·obtain⟨h,hh⟩:∃h,h=(i+j)/2:=⟨_,rfl⟩;have w0:IntKind.i64.wrap ((i:Int)+(j:Int))=((i+j:Nat):Int):=by rw[aD];simp
  have hm:h<l.length:=by omega
  have wm:IntKind.i64.wrap ((IntKind.u64.wrap ((i:Int)+(j:Int))).fdiv (2^min 1 IntKind.u64.bits))=(h:Int):=by
   have e1:IntKind.u64.wrap ((i:Int)+(j:Int))=((i+j:Nat):Int):=by exact zD (by omega) (by omega)
   have e2:(2:Int)^min 1 IntKind.u64.bits=2:=rfl;rw[e1,e2,Int.fdiv_eq_ediv_of_nonneg _ (by omega),hh,aD];simp
  have hch:=hc h hm;have hs:Ci c (j-i) i j=if c h<0 then Ci c (j-(h+1)) (h+1) j else Ci c (h-i) i h:=by
   obtain⟨d,hd⟩:∃d,j-i=d+1:=⟨j-i-1,by omega⟩;rw[hd,Ci,if_pos c1,<-hh];split
   ·exact uC c _ _ _ _ (by omega) (by omega)
   ·exact uC c _ _ _ _ (by omega) (by omega)
  rw[hs]at h3;simp[c1,w0,wm,hm];refine bS (hg l[h] (List.getElem_mem hm)) ?_;rw[<-hch];by_cases c2:c h<0
  ·rw[if_pos c2]at h3;have wh:IntKind.i64.wrap ((h:Int)+1)=(h:Int)+1:=aD;simp[c2,wh];exact⟨h+1,j,⟨by omega,h2,h3⟩,by omega,ak (by simp)⟩
  ·rw[if_neg c2]at h3;simp[c2];exact⟨i,h,⟨by omega,by omega,h3⟩,by omega,ak (by simp)⟩
 ·have hij:i=j:=by omega
  subst hij;have hRi:R=i:=by rw[<-h3];simp[Ci]
  subst hRi;by_cases c3:R<l.length
  ·simp[c3];refine bS (hg l[R] (List.getElem_mem c3)) ?_;rw[<-hc R c3];simp[results154]
  ·simp[c3,results154]
end Go.Av
namespace Go.cC
abbrev Key:=List UInt8
abbrev ke:=List (Key×Int)
abbrev lt(a b:Key):Prop:=Op.bytesLess a b=true
instance(a b:Key):Decidable (lt a b):=inferInstanceAs (Decidable (_=true))
theorem Pa:∀(a b:List UInt8),Op.bytesLess b a=(!Op.bytesLess a b&&!a==b)
 |[],[]=>rfl
 |[],_::_=>rfl
 |_::_,[]=>rfl
 |x::a,y::b=>by
  have ih:=Pa a b;rcases Nat.lt_trichotomy x.toNat y.toNat with h|h|h
  ·have h1:x<y:=h;have h2:¬y<x:=fun k=>by have:y.toNat<x.toNat:=k;omega
   have h3:(y==x)=false:=by simp;intro e;subst e;omega
   simp[Op.bytesLess,h1,h2,h3]
  ·have h1:x=y:=UInt8.toNat_inj.mp h;subst h1;have h2:¬x<x:=fun k=>by have:x.toNat<x.toNat:=k;omega
   simp[Op.bytesLess,h2,ih]
  ·have h1:y<x:=h;have h2:¬x<y:=fun k=>by have:x.toNat<y.toNat:=k;omega
   have h3:(x==y)=false:=by simp;intro e;subst e;omega
   have h4:x≠y:=by intro e;subst e;omega
   simp[Op.bytesLess,h1,h2,h3,h4]
theorem rF:∀a:List UInt8,Op.bytesLess a a=false
 |[]=>rfl
 |x::a=>by
  have h2:¬x<x:=fun k=>by have:x.toNat<x.toNat:=k;omega
  simp[Op.bytesLess,h2,rF a]
theorem uA:∀{a b c:List UInt8},Op.bytesLess a b=true->Op.bytesLess b c=true->Op.bytesLess a c=true
 |_,[],_,h,_=>by simp[Op.bytesLess]at h
 |_,_::_,[],_,h=>by simp[Op.bytesLess]at h
 |[],_::_,_::_,_,_=>rfl
 |x::a,y::b,z::c,h,k=>by
  simp only[Op.bytesLess,Bool.or_eq_true,decide_eq_true_eq,Bool.and_eq_true,beq_iff_eq]at h k⊢;have lt_iff:∀p q:UInt8,p<q↔p.toNat<q.toNat:=fun p q=>Iff.rfl;simp only[lt_iff]at h k⊢;rcases h with h|⟨h,h'⟩
  ·rcases k with k|⟨k,k'⟩
   ·exact .inl (by omega)
   ·subst k;exact .inl h
  ·subst h;rcases k with k|⟨k,k'⟩
   ·exact .inl k
   ·subst k;exact .inr ⟨rfl,uA h' k'⟩
theorem lt_irrefl(a:Key):¬lt a a:=by unfold lt;rw[rF];exact Bool.false_ne_true
theorem lt_trans{a b c:Key}(h:lt a b)(k:lt b c):lt a c:=uA h k
theorem lt_asymm{a b:Key}(h:lt a b):¬lt b a:=fun k=>lt_irrefl a (lt_trans h k)
theorem nlt{a b:Key}(h:¬lt a b):a=b\/lt b a:=by
 have:=Pa a b;have h':Op.bytesLess a b=false:=by simpa[lt]using h
 rw[h']at this;by_cases e:a=b
 ·exact .inl e
 ·right;simp[lt,this,e]
abbrev le(a b:Key):Prop:=¬lt b a
theorem le_refl(a:Key):le a a:=lt_irrefl a
theorem ad3{a b:Key}(h:lt a b):le a b:=lt_asymm h
theorem ad2{a b c:Key}(h:le a b)(k:lt b c):lt a c:=by
 rcases nlt h with e|e
 ·subst e;exact k
 ·exact lt_trans e k
theorem EN{a b c:Key}(h:lt a b)(k:le b c):lt a c:=by
 rcases nlt k with e|e
 ·subst e;exact h
 ·exact lt_trans h e
theorem le_trans{a b c:Key}(h:le a b)(k:le b c):le a c:=fun e=>k (EN e h)
def place(l:ke)(key:Key):Nat:=(l.takeWhile fun x=>Op.bytesLess x.1 key).length
structure Nd where
 lf:Bool
 ks:List Key
 vs:List Int
 deriving Inhabited,DecidableEq
structure jy where
 nd:List Nd
 th:List Bool
 sv:Int
 fl:Int
def jy.get(s:jy)(p:Int):Option Nd:=if 1<=p/\p<=s.nd.length/\s.th.getD (p.toNat-1) false=true then s.nd[p.toNat-1]? else none
def OS(ks:List Key):Prop:=ks.Pairwise lt
def kOk(k:Key):Prop:=1<=k.length/\k.length<=100
def vOk(v:Int):Prop:=0<=v/\v<1099511627776
structure Right(n:Nd):Prop where
 NK:OS n.ks
 keys:∀k∈n.ks,kOk k
 vals:∀v∈n.vs,vOk v
 len:n.ks.length<=4
 form:n.vs.length=n.ks.length+(if n.lf then 0 else 1)
 inner:n.lf=false->1<=n.ks.length
structure Bf(n:Nd):Prop where
 NK:OS n.ks
 keys:∀k∈n.ks,kOk k
 vals:∀v∈n.vs,vOk v
 form:n.vs.length=n.ks.length+(if n.lf then 0 else 1)
def full(n:Nd):Prop:=(if n.lf then 2 else 1)<=n.ks.length
def Win(lo:Key)(hi:Option Key)(k:Key):Prop:=le lo k/\∀h,hi=some h->lt k h
abbrev Rel:=Int->Key->Option Key->ke->List Int->Prop
def Kids(R:Rel):Key->List Key->Option Key->List Int->ke->List Int->Prop
 |lo,[],hi,[v],its,pg=>R v lo hi its pg
 |lo,k::ks,hi,v::vs,its,pg=>∃i1 p1 i2 p2,R v lo (some k) i1 p1/\Kids R k ks hi vs i2 p2/\its=i1++i2/\pg=p1++p2
 |_,_,_,_,_,_=>False
def At(N:Nd->Key->Option Key->ke->List Int->Prop)(s:jy):Rel:=fun v lo hi its pg=>∃n Dz,s.get v=some n/\Right n/\full n/\N n lo hi its Dz/\pg=v::Dz
def Has(s:jy):Nat->Nd->Key->Option Key->ke->List Int->Prop
 |0,n,lo,hi,its,pg=>n.lf=true/\Bf n/\(∀k∈n.ks,Win lo hi k)/\its=n.ks.zip n.vs/\pg=[]
 |h+1,n,lo,hi,its,pg=>n.lf=false/\Bf n/\(∀k∈n.ks,Win lo hi k)/\Kids (At (Has s h) s) lo n.ks hi n.vs its pg
def Tr(s:jy)(h:Nat):Rel:=At (Has s h) s
theorem zw{R R':Rel}{Q:Int->Prop}(hR:∀v lo hi its pg,R v lo hi its pg->(∀p∈pg,Q p)->R' v lo hi its pg):∀{lo:Key} {ks:List Key} {hi:Option Key} {vs:List Int} {its:ke} {pg:List Int},Kids R lo ks hi vs its pg->(∀p∈pg,Q p)->Kids R' lo ks hi vs its pg
 |_,[],_,[],_,_,h,_=>by simp[Kids]at h
 |_,[],_,[v],_,_,h,hq=>hR _ _ _ _ _ h hq
 |_,[],_,v::w::vs,_,_,h,_=>by simp[Kids]at h
 |_,k::ks,_,[],_,_,h,_=>by simp[Kids]at h
 |_,k::ks,_,v::vs,_,_,h,hq=>by
  obtain⟨i1,p1,i2,p2,h1,h2,h3,h4⟩:=h;subst h4;exact⟨i1,p1,i2,p2,hR _ _ _ _ _ h1 fun p hp=>hq p (by simp[hp]),zw hR h2 fun p hp=>hq p (by simp[hp]),h3,rfl⟩
theorem Eo{s s':jy}{Q:Int->Prop}(hs:∀p n,Q p->s.get p=some n->s'.get p=some n):∀(h:Nat) {n:Nd} {lo:Key} {hi:Option Key} {its:ke} {pg:List Int},Has s h n lo hi its pg->(∀p∈pg,Q p)->Has s' h n lo hi its pg
 |0,_,_,_,_,_,hh,_=>hh
 |h+1,n,lo,hi,its,pg,⟨h1,h2,h3,h4⟩,hq=>by
  refine⟨h1,h2,h3,zw (Q:=Q) (fun v lo hi its pg hr hq=>?_) h4 hq⟩;obtain⟨m,Dz,e1,e2,e3,e4,rfl⟩:=hr;exact⟨m,Dz,hs _ _ (hq _ (by simp)) e1,e2,e3,Eo hs h e4 fun p hp=>hq p (by simp[hp]),rfl⟩
theorem xL{ks:List Key}(h:OS ks){i j:Nat}(hij:i<j)(hj:j<ks.length):lt ks[i] ks[j]:=List.pairwise_iff_getElem.1 h i j (by omega) hj hij
def o9(lo:Key)(ks:List Key):Nat->Key
 |0=>lo
 |c+1=>ks.getD c []
theorem yD{R:Rel}:∀{lo:Key} {ks:List Key} {hi:Option Key} {vs:List Int} {its:ke} {pg:List Int} (i:Nat) (hi':i<ks.length),Kids R lo ks hi vs its pg->∃i1 i2 p1 p2,Kids R lo (ks.take i) (some ks[i]) (vs.take (i+1)) i1 p1/\Kids R ks[i] (ks.drop (i+1)) hi (vs.drop (i+1)) i2 p2/\its=i1++i2/\pg=p1++p2
 |_,[],_,_,_,_,i,h,_=>by simp at h
 |_,k::ks,_,[],_,_,_,_,h=>by simp[Kids]at h
 |lo,k::ks,hi,v::vs,_,_,0,_,h=>by
  obtain⟨i1,p1,i2,p2,h1,h2,rfl,rfl⟩:=h;exact⟨i1,i2,p1,p2,by simpa[Kids]using h1,by simpa using h2,rfl,rfl⟩
 |lo,k::ks,hi,v::vs,_,_,i+1,hi',h=>by
  obtain⟨i1,p1,i2,p2,h1,h2,rfl,rfl⟩:=h;obtain⟨j1,j2,q1,q2,e1,e2,rfl,rfl⟩:=yD i (by simpa using hi') h2;exact⟨i1++j1,j2,p1++q1,q2,⟨i1,p1,j1,q1,h1,by simpa using e1,rfl,rfl⟩,by simpa using e2,by simp,by simp⟩
def bh(n:Nd):Nat:=if n.lf then 0 else 1
def gC(n:Nd)(i:Nat)(key:Key)(us:List Int):Nd:=⟨n.lf,n.ks.take i++key::n.ks.drop i,n.vs.take i++us++n.vs.drop (if n.lf then i else i+1)⟩
def nQ(n:Nd)(i:Nat):Nd:=⟨n.lf,n.ks.take i++n.ks.drop (i+1),n.vs.take (i+bh n)++n.vs.drop (i+bh n+1)⟩
def Fz(n:Nd):Bool:=n.vs.length==n.ks.length+(if n.lf then 0 else 1)
def jX(n:Nd):Nd:=⟨n.lf,n.ks.take (n.ks.length/2),n.vs.take (n.ks.length/2+bh n)⟩
def jY(n:Nd):Nd:=⟨n.lf,n.ks.drop (n.ks.length/2+bh n),n.vs.drop (n.ks.length/2+bh n)⟩
def oy(n:Nd):Key:=n.ks.getD (n.ks.length/2) []
def gS(n:Nd):Nd:=if Fz n then jX n else n
def lG(n:Nd):Nd:=if Fz n then jY n else⟨n.lf,[],[]⟩
def sy(n:Nd):Key:=if Fz n then oy n else[]
def lY(n:Nd)(c:Nat)(p:Int):Nd:=⟨n.lf,n.ks,n.vs.set c p⟩
def jy.add(s:jy)(n:Nd):jy:=⟨s.nd++[n],s.th++[true],s.sv+1,s.fl⟩
def jy.save(s:jy)(n:Nd):jy×Int×Int:=if s.sv+1=s.fl then(⟨s.nd,s.th,s.sv+1,s.fl⟩,0,30)else(s.add n,(s.nd.length+1:Nat),0)
def jy.N(s:jy):Nat:=s.nd.length
def jy.Wf(s:jy):Prop:=s.th.length=s.nd.length
structure Ext(s s':jy):Prop where
 ex:∃X,s'.nd=s.nd++X/\s'.th=s.th++List.replicate X.length true
 fl:s'.fl=s.fl
 sv:s.sv<=s'.sv
theorem Ext.refl(s:jy):Ext s s:=⟨⟨[],by simp,by simp⟩,rfl,Int.le_refl _⟩
theorem Ext.trans{a b c:jy}(h:Ext a b)(k:Ext b c):Ext a c:=by
 obtain⟨⟨X,h1,h2⟩,h3,h4⟩:=h;obtain⟨⟨Y,k1,k2⟩,k3,k4⟩:=k;exact⟨⟨X++Y,by rw[k1,h1,List.append_assoc],by rw[k2,h2,List.append_assoc,List.length_append,List.replicate_append_replicate]⟩,k3.trans h3,Int.le_trans h4 k4⟩
theorem Ext.wf{s s':jy}(h:Ext s s')(w:s.Wf):s'.Wf:=by
 obtain⟨⟨X,h1,h2⟩,_⟩:=h;unfold jy.Wf at*;rw[h1,h2];simp[w]
theorem Ext.get{s s':jy}(h:Ext s s')(w:s.Wf){p:Int}{n:Nd}(e:s.get p=some n):s'.get p=some n:=by
 obtain⟨⟨X,h1,h2⟩,_⟩:=h;unfold jy.Wf at w;unfold jy.get at*;split at e
 ·rename_i hc;obtain⟨c1,c2,c3⟩:=hc;have hlt:p.toNat-1<s.nd.length:=by omega
  rw[if_pos ⟨c1,by rw[h1];simp;omega,by rw[h2];simp only[List.getD_eq_getElem?_getD]at c3⊢;rw[List.getElem?_append_left (by omega)];exact c3⟩];rw[h1,List.getElem?_append_left hlt];exact e
 ·cases e
theorem vv(s:jy)(n:Nd)(w:s.Wf):Ext s (s.save n).1/\((s.save n).2.2=30/\(s.save n).1.N=s.N\/(s.save n).2.2=0/\(s.save n).2.1=(s.N+1:Nat)/\(s.save n).1.get (s.N+1:Nat)=some n/\(s.save n).1.N=s.N+1):=by
 unfold jy.save;split
 ·exact⟨⟨⟨[],by simp,by simp⟩,rfl,by simp only;omega⟩,.inl ⟨rfl,rfl⟩⟩
 ·refine⟨⟨⟨[n],rfl,rfl⟩,rfl,by simp only[jy.add];omega⟩,.inr ⟨rfl,rfl,?_,by simp[jy.N,jy.add]⟩⟩;unfold jy.Wf at w;unfold jy.get jy.add jy.N;simp only[List.length_append,List.length_cons,List.length_nil,List.getD_eq_getElem?_getD];rw[if_pos ⟨by omega,by omega,by rw[show((s.nd.length+1:Nat):Int).toNat-1=s.th.length by omega];simp⟩];rw[show((s.nd.length+1:Nat):Int).toNat-1=s.nd.length by omega];simp
def cr(n m:Nat)(a:Int):Nat:=if(n:Int)<a/\a<=(m:Int)then 1 else 0
theorem XP{n m k:Nat}(h:n<=m)(h2:m<=k)(a:Int):cr n k a=cr n m a+cr m k a:=by
 unfold cr;split<;>split<;>split<;>omega
theorem GJ(n:Nat)(a:Int):cr n (n+1) a=[((n+1:Nat):Int)].count a:=by
 unfold cr;simp only[List.count_cons,List.count_nil,beq_iff_eq];split<;>split<;>omega
def jK(s:jy)(n:Nd):jy×List Int×Key×Int:=if n.ks.length<=4 then((s.save n).1,[(s.save n).2.1],[],(s.save n).2.2)else if(s.save (gS n)).2.2=0 then(((s.save (gS n)).1.save (lG n)).1,[(s.save (gS n)).2.1,((s.save (gS n)).1.save (lG n)).2.1],sy n,((s.save (gS n)).1.save (lG n)).2.2)else((s.save (gS n)).1,[],[],(s.save (gS n)).2.2)
def One(s:jy)(h:Nat)(lo:Key)(hi:Option Key)(its:ke)(XQ:List Int)(pages:List Int)(n:Nd):Prop:=∃p pg,pages=[p]/\s.get p=some n/\Right n/\Has s h n lo hi its pg/\XQ=p::pg
def Two(s:jy)(h:Nat)(lo:Key)(hi:Option Key)(its:ke)(XQ:List Int)(pages:List Int)(key:Key):Prop:=∃p q i1 i2 p1 p2,pages=[p,q]/\Tr s h p lo (some key) i1 p1/\Tr s h q key hi i2 p2/\its=i1++i2/\XQ=p1++p2/\kOk key/\lt lo key/\∀x,hi=some x->lt key x
theorem OQ{ks:List Key}(h:OS ks)(i:Nat):OS (ks.take i):=List.Pairwise.sublist (List.take_sublist _ _) h
theorem OU{ks:List Key}(h:OS ks)(i:Nat):OS (ks.drop i):=List.Pairwise.sublist (List.drop_sublist _ _) h
theorem CH{s s':jy}(e:Ext s s')(w:s.Wf){h:Nat}{n:Nd}{lo:Key}{hi:Option Key}{its:ke}{pg:List Int}(hh:Has s h n lo hi its pg):Has s' h n lo hi its pg:=Eo (Q:=fun _=>True) (fun _ _ _ hg=>e.get w hg) h hh fun _ _=>trivial
theorem Kw{s:jy}{h:Nat}{n:Nd}{lo:Key}{hi:Option Key}{its:ke}{pg:List Int}(hh:Has s h n lo hi its pg)(h5:n.ks.length=5):Right (jX n)/\full (jX n)/\Right (jY n)/\full (jY n)/\kOk (oy n)/\lt lo (oy n)/\(∀x,hi=some x->lt (oy n) x)/\∃i1 i2 p1 p2,Has s h (jX n) lo (some (oy n)) i1 p1/\Has s h (jY n) (oy n) hi i2 p2/\its=i1++i2/\pg=p1++p2:=by
 have hL:Bf n:=by cases h<;>exact hh.2.1
 have hW:∀k∈n.ks,Win lo hi k:=by cases h<;>exact hh.2.2.1
 have e2:n.ks.length/2=2:=by omega
 have ek:oy n=n.ks[2]'(by omega):=by unfold oy;rw[e2,List.getD_eq_getElem?_getD,List.getElem?_eq_getElem (by omega)];rfl
 have hk2:n.ks[2]'(by omega)∈n.ks:=List.getElem_mem _
 have hb:bh n<=1:=by unfold bh;split<;>omega
 have hf:=hL.form;have hf':n.vs.length=5+bh n:=by rw[hf,h5];unfold bh;split<;>rfl
 have lA:(jX n).ks.length=2:=by simp[jX,e2];omega
 have lB:(jY n).ks.length=5-(2+bh n):=by simp[jY,e2,h5]
 have vA:(jX n).vs.length=2+bh n:=by simp[jX,e2];omega
 have vB:(jY n).vs.length=5+bh n-(2+bh n):=by simp[jY,e2,hf']
 have fA:bh (jX n)=bh n:=rfl;have fB:bh (jY n)=bh n:=rfl;have LA:Bf (jX n):=⟨OQ hL.NK _,fun k hk=>hL.keys k (List.mem_of_mem_take hk),fun v hv=>hL.vals v (List.mem_of_mem_take hv),by
  rw[vA,lA];show _=2+(if n.lf then 0 else 1);unfold bh;rfl⟩
 have LB:Bf (jY n):=⟨OU hL.NK _,fun k hk=>hL.keys k (List.mem_of_mem_drop hk),fun v hv=>hL.vals v (List.mem_of_mem_drop hv),by
  rw[vB,lB];show _=_+(if n.lf then 0 else 1);unfold bh;split<;>omega⟩
 have RA:Right (jX n):=⟨LA.NK,LA.keys,LA.vals,by omega,LA.form,fun _=>by omega⟩;have RB:Right (jY n):=⟨LB.NK,LB.keys,LB.vals,by omega,LB.form,fun _=>by omega⟩;have lo2:lt lo (oy n):=by
  rw[ek];exact ad2 (hW _ (List.getElem_mem (show 0<n.ks.length by omega))).1 (xL hL.NK (by omega) (by omega))
 refine⟨RA,?_,RB,?_,by rw[ek];exact hL.keys _ hk2,lo2,fun x hx=>by rw[ek];exact(hW _ hk2).2 x hx,?_⟩
 ·unfold full;rw[lA];split<;>omega
 ·unfold full;rw[lB];show(if n.lf then 2 else 1)<=_;unfold bh;split<;>simp_all
 have hWA:∀k∈(jX n).ks,Win lo (some (oy n)) k:=fun k hk=>by
  refine⟨(hW k (List.mem_of_mem_take hk)).1,fun x hx=>?_⟩;injection hx with hx;subst hx;rw[ek];have hk':k∈n.ks.take 2:=by simpa[jX,e2]using hk
  obtain⟨j,hj,rfl⟩:=List.getElem_of_mem hk';simp only[List.length_take]at hj;rw[List.getElem_take];exact xL hL.NK (by omega) (by omega)
 have hWB:∀k∈(jY n).ks,Win (oy n) hi k:=fun k hk=>by
  refine⟨?_,(hW k (List.mem_of_mem_drop hk)).2⟩;rw[ek];have hk':k∈n.ks.drop (2+bh n):=by simpa[jY,e2]using hk
  obtain⟨j,hj,rfl⟩:=List.getElem_of_mem hk';simp only[List.length_drop]at hj;rw[List.getElem_drop];rcases Nat.eq_zero_or_pos (bh n+j)with h0|h0
  ·have:2+bh n+j=2:=by omega
   simp only[this];exact le_refl _
  ·exact ad3 (xL hL.NK (by omega) (by omega))
 cases h with
 |zero=>
  obtain⟨h1,h2,h3,rfl,rfl⟩:=hh;have hb0:bh n=0:=by unfold bh;rw[h1];rfl
  refine⟨_,_,[],[],⟨h1,LA,hWA,rfl,rfl⟩,⟨h1,LB,hWB,rfl,rfl⟩,?_,rfl⟩;show n.ks.zip n.vs=(n.ks.take _).zip (n.vs.take _)++(n.ks.drop _).zip (n.vs.drop _);rw[hb0,Nat.add_zero];simp only[List.zip,<-List.take_zipWith,<-List.drop_zipWith,List.take_append_drop]
 |succ h=>
  obtain⟨h1,h2,h3,h4⟩:=hh;have hb0:bh n=1:=by unfold bh;rw[h1];rfl
  obtain⟨i1,i2,p1,p2,k1,k2,k3,k4⟩:=yD 2 (by omega) h4;refine⟨i1,i2,p1,p2,⟨h1,LA,hWA,?_⟩,⟨h1,LB,hWB,?_⟩,k3,k4⟩
  ·have:(jX n).ks=n.ks.take 2/\(jX n).vs=n.vs.take 3:=by simp[jX,e2,hb0]
   rw[this.1,this.2,ek];exact k1
  ·have:(jY n).ks=n.ks.drop 3/\(jY n).vs=n.vs.drop 3:=by simp[jY,e2,hb0]
   rw[this.1,this.2,ek];exact k2
theorem BL{s:jy}{h:Nat}{n:Nd}{lo:Key}{hi:Option Key}{its:ke}{pg:List Int}(w:s.Wf)(hh:Has s h n lo hi its pg)(h5:n.ks.length<=5)(h1:n.lf=false->1<=n.ks.length):Ext s (jK s n).1/\((jK s n).2.2.2=30\/(jK s n).2.2.2=0/\∃XQ,(One (jK s n).1 h lo hi its XQ (jK s n).2.1 n\/Two (jK s n).1 h lo hi its XQ (jK s n).2.1 (jK s n).2.2.1)/\∀a,XQ.count a=pg.count a+cr s.N (jK s n).1.N a):=by
 have hL:Bf n:=by cases h<;>exact hh.2.1
 unfold jK;split
 ·rename_i h4;obtain⟨e,hs⟩:=vv s n w;refine⟨e,?_⟩;rcases hs with⟨hs,_⟩|⟨s1,s2,s3,s4⟩
  ·exact .inl hs
  ·refine .inr ⟨s1,_,.inl ⟨_,pg,rfl,by simp only[s2];exact s3,⟨hL.NK,hL.keys,hL.vals,h4,hL.form,h1⟩,CH e w hh,rfl⟩,fun a=>?_⟩;simp only;rw[s4,GJ,s2];simp only[List.count_cons,List.count_nil];omega
 ·rename_i h4;have hh5:n.ks.length=5:=by omega
  have fm:Fz n=true:=by unfold Fz;rw[hL.form];simp
  have eA:gS n=jX n:=by simp[gS,fm]
  have eB:lG n=jY n:=by simp[lG,fm]
  have eK:sy n=oy n:=by simp[sy,fm]
  obtain⟨RA,FA,RB,FB,kk,kl,kh,i1,i2,p1,p2,HA,HB,hi',hp⟩:=Kw hh hh5;rw[<-eA]at RA FA HA;rw[<-eB]at RB FB HB;rw[<-eK]at kk kl kh HA HB;obtain⟨e,hs⟩:=vv s (gS n) w;split
  ·rename_i he;rcases hs with⟨hs,_⟩|⟨s1,s2,s3,s4⟩
   ·rw[hs]at he;cases he
   have w1:=e.wf w;obtain⟨e',ht⟩:=vv (s.save (gS n)).1 (lG n) w1;refine⟨e.trans e',?_⟩;rcases ht with⟨ht,_⟩|⟨t1,t2,t3,t4⟩
   ·exact .inl ht
   ·refine .inr ⟨t1,?_⟩;simp only;have EA:=CH (e.trans e') w HA;have EB:=CH (e.trans e') w HB;refine⟨_,.inr ⟨_,_,i1,i2,_,_,rfl,⟨_,p1,by rw[s2];exact e'.get w1 s3,RA,FA,EA,rfl⟩,⟨_,p2,by rw[t2];exact t3,RB,FB,EB,rfl⟩,hi',rfl,kk,kl,kh⟩,fun a=>?_⟩;rw[t2,s2,t4,s4,hp,XP (m:=s.N+1) (by omega) (by omega),GJ,GJ];simp only[List.cons_append,List.count_cons,List.count_append,List.count_nil];omega
  ·rename_i he;rcases hs with⟨hs,_⟩|⟨s1,s2,s3,s4⟩
   ·exact⟨e,.inl hs⟩
   ·exact absurd s1 he
structure Step where
 n:Nd
 p:Int
 c:Nat
 deriving Inhabited
def dy(n:Nd)(key:Key):Nat:=(n.ks.takeWhile fun k=>!Op.bytesLess key k).length
def bV(n:Nd)(key:Key):Nat:=(n.ks.takeWhile fun k=>Op.bytesLess k key).length
def tw(n:Nd)(key:Key):Bool:=n.ks[bV n key]?==some key
theorem Rs{α:Type}(q:α->Bool)(l:List α):(∀x∈l.take (l.takeWhile q).length,q x=true)/\∀h:(l.takeWhile q).length<l.length,q l[(l.takeWhile q).length]=false:=by
 induction l with
 |nil=>simp
 |cons x l ih=>
  by_cases c:q x=true
  ·simp only[List.takeWhile_cons,c,if_true,List.length_cons,List.take_succ_cons,List.mem_cons,forall_eq_or_imp,List.getElem_cons_succ,true_and];exact⟨ih.1,fun h=>ih.2 (by omega)⟩
  ·simp only[List.takeWhile_cons,c,Bool.false_eq_true,if_false,List.length_nil,List.take_zero,List.getElem_cons_zero];exact⟨fun _ h=>by simp at h,fun _=>by simpa using c⟩
theorem U2{α:Type}(q:α->Bool)(l:List α):(l.takeWhile q).length<=l.length:=(List.takeWhile_sublist _).length_le
theorem F5{n:Nd}{key:Key}(h:tw n key=true):∃hi:bV n key<n.ks.length,n.ks[bV n key]=key:=by
 unfold tw at h;rcases Nat.lt_or_ge (bV n key) n.ks.length with hi|hi
 ·rw[List.getElem?_eq_getElem hi]at h;exact⟨hi,by simpa using h⟩
 ·rw[List.getElem?_eq_none hi]at h;cases h
def ju(n:Nd)(key:Key)(v:Int):Nd:=gC (if tw n key then nQ n (bV n key)else n) (bV n key) key [v]
theorem tC(n:Nd)(key:Key):bV n key<=n.ks.length:=U2 _ _
theorem OV{n:Nd}(hl:n.lf=true)(hf:n.vs.length=n.ks.length)(key:Key)(v:Int):ju n key v=⟨true,n.ks.take (bV n key)++key::n.ks.drop (if tw n key then bV n key+1 else bV n key),n.vs.take (bV n key)++v::n.vs.drop (if tw n key then bV n key+1 else bV n key)⟩:=by
 have hle:=tC n key;unfold ju;by_cases hh:tw n key=true
 ·simp only[hh,if_true,gC,nQ,bh,hl,Nat.add_zero];have a1:(n.ks.take (bV n key)++n.ks.drop (bV n key+1)).take (bV n key)=n.ks.take (bV n key):=List.take_left' (by simp;omega);have a2:(n.ks.take (bV n key)++n.ks.drop (bV n key+1)).drop (bV n key)=n.ks.drop (bV n key+1):=List.drop_left' (by simp;omega);have b1:(n.vs.take (bV n key)++n.vs.drop (bV n key+1)).take (bV n key)=n.vs.take (bV n key):=List.take_left' (by simp;omega);have b2:(n.vs.take (bV n key)++n.vs.drop (bV n key+1)).drop (bV n key)=n.vs.drop (bV n key+1):=List.drop_left' (by simp;omega);rw[a1,a2,b1,b2];simp
 ·have VZ:tw n key=false:=by simpa using hh
  simp[VZ,gC,hl]
structure Up where
 s:jy
 old:List Int
 pg:List Int
 key:Key
 e:Int
def BX(st:Step)(pg:List Int)(key:Key):Nd:=if pg.length=2 then gC st.n st.c key pg else lY st.n st.c (pg.getD 0 0)
def sU(st:Step)(u:Up):Up:=if u.e=0 then⟨(jK u.s (BX st u.pg u.key)).1,u.old++[st.p],(jK u.s (BX st u.pg u.key)).2.1,(jK u.s (BX st u.pg u.key)).2.2.1,(jK u.s (BX st u.pg u.key)).2.2.2⟩else u
def mV(s:jy)(n:Nd)(old:List Int)(key:Key)(v:Int):Up:=⟨(jK s (ju n key v)).1,old,(jK s (ju n key v)).2.1,(jK s (ju n key v)).2.2.1,(jK s (ju n key v)).2.2.2⟩
def aen(s:jy)(l:List Step)(x:Step)(key:Key)(v:Int):Up:=l.foldr sU (mV s x.n [x.p] key v)
theorem oD(n:Nd)(key:Key):dy n key<=n.ks.length:=U2 _ _
def Cp:List Key->Bool
 |[]=>true
 |[_]=>true
 |a::b::l=>Op.bytesLess a b&&Cp (b::l)
def rB(n:Nd):Bool:=Cp n.ks&&n.ks.all (fun k=>decide (1<=k.length)&&decide (k.length<=100))&&n.vs.all (fun v=>decide (0<=v)&&decide (v<1099511627776))&&decide (n.ks.length<=4)&&(n.vs.length==n.ks.length+(if n.lf then 0 else 1))&&(n.lf||decide (1<=n.ks.length))
theorem yU:∀(ks:List Key),Cp ks=true↔OS ks
 |[]=>by simp[Cp,OS]
 |[_]=>by simp[Cp,OS]
 |a::b::l=>by
  have ih:=yU (b::l);simp only[Cp,Bool.and_eq_true,ih,OS];constructor
  ·rintro⟨h1,h2⟩;refine List.pairwise_cons.2 ⟨fun x hx=>?_,h2⟩;rcases List.mem_cons.1 hx with rfl|hx
   ·exact h1
   ·exact lt_trans h1 ((List.pairwise_cons.1 h2).1 x hx)
  ·intro h;have:=List.pairwise_cons.1 h;exact⟨this.1 b (by simp),this.2⟩
theorem lC(n:Nd):rB n=true↔Right n:=by
 unfold rB;simp only[Bool.and_eq_true,yU,List.all_eq_true,decide_eq_true_eq,beq_iff_eq,Bool.or_eq_true];constructor
 ·rintro⟨⟨⟨⟨⟨h1,h2⟩,h3⟩,h4⟩,h5⟩,h6⟩;refine⟨h1,h2,h3,h4,h5,fun h=>?_⟩;rw[h]at h6;simpa using h6
 ·intro h;refine⟨⟨⟨⟨⟨h.NK,h.keys⟩,h.vals⟩,h.len⟩,h.form⟩,?_⟩;cases hl:n.lf with
  |true=>exact .inl rfl
  |false=>exact .inr (h.inner hl)
def nZ:Nd:=⟨false,[],[]⟩
def fu(s:jy)(p:Int):Nd×Int:=match s.get p with
 |none=>(nZ,33)
 |some n=>if rB n=true then(n,0)else(nZ,10)
theorem BZ{α:Type}{l:List α}{i j:Nat}{x:α}(h:x∈l.take i++l.drop j):x∈l:=by
 rcases List.mem_append.1 h with h|h
 ·exact List.mem_of_mem_take h
 ·exact List.mem_of_mem_drop h
def lN{α:Type}(g:Int->α->α×Int)(bad:α):List Int->α->α×Int
 |[],a=>(a,0)
 |p::l,a=>if(g p a).2=0 then lN g bad l (g p a).1 else(bad,(g p a).2)
def JQ(s:jy)(key:Key):Nat->Int->List Step->List Step×Int
 |0,page,out=>if page=0 then(out,0)else([],10)
 |f+1,page,out=>if page=0 then(out,0)else
  if(fu s page).2=0 then
   if(fu s page).1.lf=true then(out++[⟨(fu s page).1,page,dy (fu s page).1 key⟩],0)
   else JQ s key f ((fu s page).1.vs.getD (dy (fu s page).1 key) 0) (out++[⟨(fu s page).1,page,dy (fu s page).1 key⟩])
  else([],(fu s page).2)
def F4(x:Step)(key:Key):Int×Bool:=if tw x.n key then(x.n.vs.getD (bV x.n key) 0,true)else(0,false)
def gi(s:jy):Nat->Int->List Int->List Int×Int
 |0,_,_=>([],10)
 |f+1,page,out=>if(fu s page).2=0 then
  if(fu s page).1.lf=true then(out++[page],0)else lN (gi s f) [] (fu s page).1.vs (out++[page])else([],(fu s page).2)
def ou(aK:Key)(most:Int):ke->ke->ke
 |[],out=>out
 |(k,v)::l,out=>ou aK most l (if !Op.bytesLess k aK&&decide ((out.length:Int)<most)then out++[(k,v)]else out)
def foldM(g:Int->ke->ke×Int)(most:Int):List Int->ke->ke×Int
 |[],a=>(a,0)
 |p::l,a=>if(a.length:Int)<most then(if(g p a).2=0 then foldM g most l (g p a).1 else([],(g p a).2))else(a,0)
def eZ(s:jy)(aK:Key)(most:Int):Nat->Int->ke->ke×Int
 |0,_,_=>([],10)
 |f+1,page,out=>if(fu s page).2=0 then
  if(fu s page).1.lf=true then(ou aK most ((fu s page).1.ks.zip (fu s page).1.vs) out,0)
  else foldM (eZ s aK most f) most ((fu s page).1.vs.drop (dy (fu s page).1 aK)) out else([],(fu s page).2)
def RV(aK:Key)(its:ke):ke:=its.filter fun x=>!Op.bytesLess x.1 aK
def Cj(aK:Key)(most:Int)(out its:ke):ke:=out++(RV aK its).take (most.toNat-out.length)
theorem Nv(aK:Key)(most:Int)(out i j:ke):Cj aK most (Cj aK most out i) j=Cj aK most out (i++j):=by
 unfold Cj RV;rw[List.filter_append,List.take_append,List.append_assoc];congr 2;simp only[List.length_append,List.length_take];rcases Nat.le_total (most.toNat-out.length) (i.filter fun x=>!Op.bytesLess x.1 aK).length with h|h
 ·rw[Nat.min_eq_left h,show most.toNat-(out.length+(most.toNat-out.length))=0 by omega,show most.toNat-out.length-(i.filter fun x=>!Op.bytesLess x.1 aK).length=0 by omega]
 ·rw[Nat.min_eq_right h,show most.toNat-(out.length+(i.filter fun x=>!Op.bytesLess x.1 aK).length)=most.toNat-out.length-(i.filter fun x=>!Op.bytesLess x.1 aK).length by omega]
theorem Nw(aK:Key)(most:Int)(out:ke):Cj aK most out []=out:=by simp[Cj,RV]
theorem A3(aK:Key)(most:Int):∀(its out:ke),ou aK most its out=Cj aK most out its
 |[],out=>(Nw aK most out).symm
 |(k,v)::l,out=>by
  unfold ou;rw[A3 aK most l,show(k,v)::l=[(k,v)]++l from rfl,<-Nv];congr 1;unfold Cj RV;by_cases h1:Op.bytesLess k aK=true
  ·simp[h1]
  ·have h1:Op.bytesLess k aK=false:=by simpa using h1
   by_cases h2:(out.length:Int)<most
   ·obtain⟨j,hj⟩:∃j,most.toNat-out.length=j+1:=⟨most.toNat-out.length-1,by omega⟩;simp[h1,h2,hj]
   ·rw[show most.toNat-out.length=0 by omega];simp[h1,h2]
def jy.drop(s:jy)(p:Int):jy:=if 1<=p/\p<=s.th.length then⟨s.nd,s.th.set (p.toNat-1) false,s.sv,s.fl⟩else s
def iJ(s:jy)(l:List Int):jy:=l.foldl jy.drop s
structure Grow(s s':jy):Prop where
 nd:∃X,s'.nd=s.nd++X
 fl:s'.fl=s.fl
 sv:s.sv<=s'.sv
theorem Grow.refl(s:jy):Grow s s:=⟨⟨[],by simp⟩,rfl,Int.le_refl _⟩
theorem Grow.trans{a b c:jy}(h:Grow a b)(k:Grow b c):Grow a c:=by
 obtain⟨⟨X,h1⟩,h2,h3⟩:=h;obtain⟨⟨Y,k1⟩,k2,k3⟩:=k;exact⟨⟨X++Y,by rw[k1,h1,List.append_assoc]⟩,k2.trans h2,Int.le_trans h3 k3⟩
def lH(key:Key)(v:Int):Bool:=decide (1<=key.length)&&decide (key.length<=100)&&decide (0<=v)&&decide (v<1099511627776)
structure Ret where
 s:jy
 root:Int
 was:Int
 had:Bool
 e:Int
def uZ:Nd:=⟨true,[],[]⟩
def Dy(s:jy)(l:List Step)(key:Key)(v:Int):Up:=match l.getLast? with
 |none=>mV s uZ [] key v
 |some x=>aen s l.dropLast x key v
def pI(l:List Step)(key:Key):Int×Bool:=match l.getLast? with
 |none=>(0,false)
 |some x=>F4 x key
def gD(root:Int)(was:Int)(had:Bool)(u:Up):Ret:=if u.e=0 then
 if u.pg.length=2 then
  if(u.s.save ⟨false,[u.key],u.pg⟩).2.2=0 then⟨iJ (u.s.save ⟨false,[u.key],u.pg⟩).1 u.old,(u.s.save ⟨false,[u.key],u.pg⟩).2.1,was,had,0⟩
  else⟨(u.s.save ⟨false,[u.key],u.pg⟩).1,root,0,false,(u.s.save ⟨false,[u.key],u.pg⟩).2.2⟩
 else⟨iJ u.s u.old,u.pg.getD 0 0,was,had,0⟩else⟨u.s,root,0,false,u.e⟩
def oP(s:jy)(root:Int)(key:Key)(v:Int):Ret:=if lH key v=true then
 if(JQ s key 40 root []).2=0 then gD root (pI (JQ s key 40 root []).1 key).1 (pI (JQ s key 40 root []).1 key).2 (Dy s (JQ s key 40 root []).1 key v)
 else⟨s,root,0,false,(JQ s key 40 root []).2⟩else⟨s,root,0,false,2⟩
structure Ck where
 seen:List Int
 dep:Int
def rP(n:Nd)(lo:Key)(hi:Option Key):Bool:=n.ks.all fun k=>!Op.bytesLess k lo&&(match hi with|some h=>Op.bytesLess k h|none=>true)
def vf(d:Nat)(n:Nd):Nat:=if d=0 then 1 else if n.lf then 2 else 1
def jx{α:Type}(g:Int->Key->Option Key->α->α×Int):Key->List Key->Option Key->List Int->α->α×Int
 |lo,k::ks,hi,v::vs,a=>if(g v lo (some k) a).2=0 then jx g k ks hi vs (g v lo (some k) a).1 else g v lo (some k) a
 |lo,[],hi,v::_,a=>g v lo hi a
 |_,_,_,[],a=>(a,0)
def dD(c:Ck)(page:Int):Ck:=⟨c.seen++[page],c.dep⟩
def eH(s:jy):Nat->Nat->Int->Key->Option Key->Ck->Ck×Int
 |0,_,_,_,_,c=>(c,10)
 |f+1,d,page,lo,hi,c=>
  if page∈c.seen\/page<1 then(c,10)
  else if(fu s page).2=0 then
   if vf d (fu s page).1<=(fu s page).1.ks.length/\rP (fu s page).1 lo hi=true then
    if(fu s page).1.lf=true then
     if 0<=c.dep/\c.dep≠d then(dD c page,10)else(⟨c.seen++[page],d⟩,0)
    else jx (eH s f (d+1)) lo (fu s page).1.ks hi (fu s page).1.vs (dD c page)
   else(dD c page,10)
  else(dD c page,(fu s page).2)
def jy.count(s:jy):Nat:=s.th.count true
end Go.cC
