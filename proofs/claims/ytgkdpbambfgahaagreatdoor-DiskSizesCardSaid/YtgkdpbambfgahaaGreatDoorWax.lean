/- DiskSizes, part 24: what the functions compute, and the plain law of that; no condition. -/
import Derived.Test.YtgkdpbambfgahaaGreatDoorWaw
set_option linter.all false
set_option maxRecDepth 100000
set_option maxHeartbeats 64000000
namespace Go.aW
open Go.Av
theorem lI{n:Nat}(h1:1<=n)(h2:n<=65536):qf (Mp.new n):=by
 refine⟨h2,⟨Vn h1,by simp[Mp.new]⟩,oB,oB,fun s _ hm=>?_,fun s _ hm=>?_⟩
 ·obtain⟨e,he,_⟩:=hm;simp[Mp.new]at he
 ·obtain⟨e,he,_⟩:=hm;simp[Mp.new]at he
def jB(N:Nat)(D:aU):St:=⟨D,iP 1 5 lG,5,30,0,Mp.new 30,Mp.new (N-246),[],0,[],true⟩
theorem agO(t:Nat){m:Mk}(h1:2<=m.at')(h2:m.at'<=5):JB t 5 (iP 1 5 m):=by
 refine⟨⟨by simp[iP],by simp[iP],by simp[iP],?_,?_⟩,by simp[iP],by simp[iP],?_,by simp[iP]⟩
 ·simp only[iP];omega
 ·simp only[iP];omega
 ·simp only[iP];omega
theorem KS{N t:Nat}(hN:N=262\/N=462){D:aU}(h:Gd N D)(hq:D.q.length<=t*t):ic t (jB N D):=by
 have hk:=h.kl;refine⟨h.DZ (by omega) hq,agO t (by simp[lG]) (by simp[lG]),by simp[jB],by simp[jB],?_,lI (by omega) (by omega),lI (by omega) (by omega),rfl,?_,by simp[jB],by simp[jB],by simp[jB],by simp[jB],by simp[jB],by simp[jB]⟩
 ·simp only[jB,cG,hk];omega
 ·simp only[jB,cG,hk,Mp.new];omega
structure lF(N:Nat)(D:aU):Prop where
 gd:Gd N D
 q:D.q=[]
 head:seg D.now 0 1=[eC 0 0]
 D9:seg D.now 1 5=BY
structure agZ(t t2 t3:Nat)(s s1:St)(e:eG)(x:Int×Int)(k:Kn):Prop where
 eok:e.Ok
 xb:(0<=x.1/\x.1<=65536)/\0<=x.2/\x.2<=255
 F:zZ s.sl.F
 il:s.ix.length<=100000
 sp:4*depth s.ix.length+4<=yz s.sl.F
 ix:s1.ix=s.ix
 ok1:ic t s1
 kk:k=⟨e.uri++10::e.var,e.order,x.1*256+x.2,e.body⟩
 kl:k.key.length<=1000
 at':DI s.ix k.key=false/\sY s.ix k.key=s.ix.length
 R:(s1.sM k.key k.place).e=0
 cok:fq t2 (s1.sM k.key k.place).s
 d:((s1.sM k.key k.place).s.s.aX (s1.sM k.key k.place).root (s1.ix.length+1)).2.1=true
 tx:(s1.DG (s1.ix.length+1) k.key k.place).1.ix=s1.ix
 ok3:ic t3 {(s1.DG (s1.ix.length+1) k.key k.place).1 with ix:=s1.ix++[k]}
theorem amY(key:List UInt8):DI [] key=false/\sY [] key=0:=by
 have h:sY [] key=0:=by unfold sY;simp[yw]
 exact⟨by unfold DI;simp,h⟩
theorem KU{v:Int}(h0:0<=v)(h1:v<1099511627776):Go.cI.jY fD v=true:=by
 have:fD.length=11:=rfl;unfold Go.cI.jY;rw[this];simp;omega
theorem Al(b:List UInt8)(h:b.length<=1000000):KOk (nT b):=by
 have hb:=BS (bt b) (by unfold bt;omega);have hn:bt b<=60000:=by unfold bt;omega
 refine⟨?_,by simp[nT],?_,?_,?_⟩
 ·show fD.length<=1000;decide
 ·simp only[nT];omega
 ·show(mo (bt b)).length<=8;omega
 ·intro e he;have:=hb.2 e he;omega
theorem ic.idx{t:Nat}{s:St}(h:ic t s)(k:Kn)(hk:KOk k):ic t {s with ix:=[]++[k]}:={h with ixl:=by simp,ix:=by simp;exact hk,srt:=by simp}
theorem Lj{N t:Nat}(hN:N=262\/N=462)(ht:1000<=t/\t<=10000){D0 D:aU}(h0:lF N D0){b:List UInt8}(hb:b.length<=3000)(BR:bt b+2<N-246){R:List Ext}(hG:Gd N D)(hq:D.q.length<=200)(hS:ic t {jB N D0 with D:=D,rm:={(jB N D0).rm with F:=[(bt b,N-246-bt b)],R:=R}})(Ci:∀a n,a+n<=246->seg D.now a n=seg D0.now a n)(hc:∃z,(seg D.now 246 (bt b)).flatten=b++List.replicate z 0):∃s s1 s2:St,s={jB N D0 with D:=D,rm:={(jB N D0).rm with F:=[(bt b,N-246-bt b)],R:=R}}/\s1=s.AE (bC b)/\s.AB (bC b)=((bt b:Int),2)/\(s.Ec (bC b)).2=0/\(s.rm.F.any fun x=>decide ((jI (bC b)).length<=x.2))=true/\s.rm.run (jI (bC b)).length<s.rm.F.length/\agZ t (t+8) (t+100) s s1 (bC b) ((bt b:Int),2) (nT b)/\(s1.BA 1 (nT b))=(s2,0)/\ic (t+200) s2/\eU N 246 b (eC 0 0) kg s2.D/\s2.ix=[nT b]/\s2.jn=5/\s2.pn=30/\s2.ord=0:=by
 have hm:bt b<=47:=by unfold bt;omega
 have hrc:=KX b (by omega);have Vy:t*t>=1000*t:=Nat.mul_le_mul_right _ ht.1;obtain⟨s,hs⟩:∃s,s={jB N D0 with D:=D,rm:={(jB N D0).rm with F:=[(bt b,N-246-bt b)],R:=R}}:=⟨_,rfl⟩;rw[<-hs]at hS;have hsF:s.rm.F=[(bt b,N-246-bt b)]:=by rw[hs]
 have vb:cG s.jn s.pn=((246:Nat):Int):=by rw[hs];rfl
 obtain⟨R1,hR1⟩:=take_one (M:=s.rm) (k:=2) hsF (by omega) (by omega);rw[<-hrc]at hR1;have hx:s.AB (bC b)=((bt b:Int),2):=by unfold St.AB;rw[hR1,hrc];rfl
 obtain⟨w1,w2,w3,w4,w5⟩:=hG.write (a:=246+bt b) (l:=jI (bC b)) (by rw[hrc];omega) (kR _);have hW:s.Ec (bC b)=D.write ((246+bt b:Nat):Int) (jI (bC b)):=by
  unfold St.Ec;rw[hx,vb];have e:((246:Nat):Int)+((bt b:Int),(2:Int)).1=((246+bt b:Nat):Int):=by simp only;omega
  rw[e,hs]
 rw[hrc]at w5;generalize xy:(D.write ((246+bt b:Nat):Int) (jI (bC b))).1=D1 at w2 w3 w4 w5;have hs1:s.AE (bC b)={jB N D0 with D:=D1,rm:={(jB N D0).rm with F:=[(bt b+2,N-246-bt b-2)],R:=R1}}:=by
  unfold St.AE;rw[hR1,hW,xy,hrc,hs]
 have Oz:qf {(jB N D0).rm with F:=[(bt b+2,N-246-bt b-2)],R:=R1}:=by
  have:=(hS.rm.take (jI (bC b)).length).1;rw[hR1,hrc,hs]at this;exact this
 have Lu:ic t {jB N D0 with D:=D1,rm:={(jB N D0).rm with F:=[(bt b+2,N-246-bt b-2)],R:=R1}}:=by
  have:=hS.ahd w2 (by rw[hs];exact hG.kl.symm) (by omega) (by rw[w5];omega) Oz (by rw[hs]);rw[hs]at this;exact this
 obtain⟨s1,vg⟩:∃s1,s1={jB N D0 with D:=D1,rm:={(jB N D0).rm with F:=[(bt b+2,N-246-bt b-2)],R:=R1}}:=⟨_,rfl⟩;rw[<-vg]at hs1 Lu;have V6:Go.cI.jY fD ((bt b:Int)*256+2)=true:=KU (by omega) (by omega);obtain⟨R2,D2,t1,t2,t3,t4,t5,_,t6⟩:=W4 (s:=s1) (n:=30) (j:=5) (N:=N) V6 (by rw[vg];rfl) (by rw[vg];rfl) (by omega) (by rw[vg];exact w2) (by rw[vg];rfl) (by omega);have ahe:fq (t+8) (s1.sM fD ((bt b:Int)*256+2)).s:=by
  have h:=fq.sv (t:=t) (c:=⟨s1,[],[]⟩) ⟨Lu,by simp,by simp,by simp,by simp⟩ (oa fD ((bt b:Int)*256+2));rw[<-t6]at h;have hroot:s1.root=0:=by rw[vg];rfl
  unfold St.sM;rw[hroot];exact h
 have Gg:=ahe;rw[t1]at Gg;obtain⟨c,hce⟩:∃c:St,c={s1 with sl:={s1.sl with F:=[(1,30-1)],R:=R2},D:=D2}:=⟨_,rfl⟩;rw[<-hce]at t1 Gg;simp only at Gg;have hcS:=Gg.s;simp only at hcS;have hcJ:c.J=iP 1 5 lG:=by rw[hce,vg];rfl
 have hcD:c.D=D2:=by rw[hce]
 have D7:c.J.aX c.D [(0,eC 1 1)]=((iP 1 5 lG).done [(0,eC 1 1)] 2,(aK (fP 1 (iO 1 [(0,eC 1 1)]) ((2:Nat):Int)) D2).1.flush.1,true,(aK (fP 1 (iO 1 [(0,eC 1 1)]) ((2:Nat):Int)) D2).1.flush.2)/\Gd N (aK (fP 1 (iO 1 [(0,eC 1 1)]) ((2:Nat):Int)) D2).1.flush.1:=by
  rw[hcJ,hcD];obtain⟨g1,g2,g3,g4,g5,g6⟩:=KL t2 (a:=2) (m:=2) (L:=iO 1 [(0,eC 1 1)]) (by simp[rZ]) (FM _ _ (by simp[o6]) (by simp)) (by omega);refine⟨?_,g3⟩;have hf:m8 D2.kept.length (iP 1 5 lG) [(0,eC 1 1)]=0:=by
   rw[t2.kl];rcases hN with rfl|rfl<;>kernel_rfl
  have hr:ko (iP 1 5 lG) (([(0,eC 1 1)]:List u_).length+2)=(((2:Nat):Int),true):=by kernel_rfl
  unfold Jr.aX;rw[if_pos hf,hr];simp only[if_true];unfold Jr.Cl;show(if(aK (fP 1 (iO 1 [(0,eC 1 1)]) ((2:Nat):Int)) D2).2=0 then _ else _)=_;rw[if_pos g1];rfl
 obtain⟨D7,_⟩:=D7;obtain⟨g1,g2,g3,g4,g5,g6⟩:=KL t2 (a:=2) (m:=2) (L:=iO 1 [(0,eC 1 1)]) (by simp[rZ]) (FM _ _ (by simp[o6]) (by simp)) (by omega);rw[g2]at D7;generalize hD3:(aK (fP 1 (iO 1 [(0,eC 1 1)]) ((2:Nat):Int)) D2).1.flush.1=D3 at D7 g3 g4 g5 g6;have VF:c.aX 1 1=({c with J:=(iP 1 5 lG).done [(0,eC 1 1)] 2,D:=D3,root:=1,sure:=false},true,0):=by
  unfold St.aX;rw[D7];simp
 have W5:=hcS.aX (by omega) 1 1 (by omega);rw[VF]at W5;simp only at W5;have Bm:s1.ix=[]:=by rw[vg];rfl
 have W6:s1.DG (s1.ix.length+1) fD ((bt b:Int)*256+2)=({c with J:=(iP 1 5 lG).done [(0,eC 1 1)] 2,D:=D3,root:=1,sure:=false},0):=by
  unfold St.DG;rw[t1,Bm];rw[show(((([]:List Kn).length:Nat):Int)+1)=1 from rfl,VF];simp[dF]
 have amZ:c.ix=[]:=by rw[hce,Bm]
 have hkn:(nT b).key=fD/\(nT b).place=(bt b:Int)*256+2:=⟨rfl,rfl⟩;have hS3:ic (t+100) {({c with J:=(iP 1 5 lG).done [(0,eC 1 1)] 2,D:=D3,root:=1,sure:=false}:St)with ix:=s1.ix++[nT b]}:=by
  rw[Bm];exact(W5.up (by omega)).idx _ (Al b (by omega))
 have hput:s1.BA 1 (nT b)=((({({c with J:=(iP 1 5 lG).done [(0,eC 1 1)] 2,D:=D3,root:=1,sure:=false}:St)with ix:=s1.ix++[nT b]}:St).wrote 1 0 fD),0):=by
  unfold St.BA;rw[hkn.1,hkn.2,W6]
 have W7:=(hS3.wrote 1 0 fD).up (t':=t+200) (by omega);refine⟨s,s1,_,hs,hs1.symm,hx,by rw[hW];exact w1,?_,?_,?_,hput,W7,?_,?_,?_,?_,?_⟩
 ·rw[hsF,hrc];simp;omega
 ·have hr:=AN (M:=s.rm) (k:=2) hsF (by omega);rw[hrc,hr,hsF];simp
 ·have jJ:s.sl=Mp.new 30:=by rw[hs];rfl
  have hsx:s.ix=[]:=by rw[hs];rfl
  refine⟨vw b (by omega),by simp only;omega,by rw[jJ];exact(lI (n:=30) (by omega) (by omega)).F.Jk (by show 30<=65536;omega),by rw[hsx];simp,?_,by rw[Bm,hsx],Lu,rfl,(Al b (by omega)).key,by rw[hsx];exact amY _,?_,?_,?_,?_,?_⟩
  ·rw[hsx,jJ];decide
  ·rw[hkn.1,hkn.2,t1]
  ·rw[hkn.1,hkn.2];exact ahe
  ·rw[hkn.1,hkn.2,t1,Bm];rw[show(((([]:List Kn).length:Nat):Int)+1)=1 from rfl,VF]
  ·rw[hkn.1,hkn.2,W6];simp only;rw[amZ,Bm]
  ·rw[hkn.1,hkn.2,W6];exact hS3
 ·
  have hfree:(({({c with J:=(iP 1 5 lG).done [(0,eC 1 1)] 2,D:=D3,root:=1,sure:=false}:St)with ix:=s1.ix++[nT b]}:St).wrote 1 0 fD).D=D3:=by
   unfold St.wrote;rw[if_pos rfl];rfl
  rw[hfree];have h1:=hG.nl;have apK:=w2.nl;have am0:s1.D=D1:=by rw[vg]
  rw[am0]at t3;have W8:kg.length=5:=rfl;refine⟨g3,g4,?_,?_,?_,?_,?_⟩
  ·rw[g6 0 1 (by omega),t3,bG (by rw[t5];omega) (by rw[t5];omega),w3,bG (by rw[hrc];omega) (by rw[hrc];omega),Ci 0 1 (by omega),h0.head]
  ·rw[W8,show(5:Nat)=2+3 from rfl,lC];have e1:seg D3.now 1 2=[Go.Av.qg,dn lG]:=by
    rw[g6 1 2 (by omega),t3,bG (by rw[t5];omega) (by rw[t5];omega),w3,bG (by rw[hrc];omega) (by rw[hrc];omega),Ci 1 2 (by omega)];have:=vH D0.now 1 5 0 2 (by omega);rw[h0.D9]at this;exact this.symm
   have e2:seg D3.now (1+2) 3=iO 1 [(0,eC 1 1)]:=g5;rw[e1,e2];rfl
  ·rw[W8,g6 (1+5) 8 (by omega),t3];have:=fe (L:=D1.now) (a:=1+5) (l:=Jm fD ((bt b:Int)*256+2)) (by rw[t5];omega);rw[t5]at this;exact this
  ·obtain⟨z,hz⟩:=hc;refine⟨z,?_⟩;rw[g6 246 (bt b) (by omega),t3,bG (by rw[t5];omega) (by rw[t5];omega),w3,bG (by rw[hrc];omega) (by rw[hrc];omega),hz]
  ·rw[g6 (246+bt b) 2 (by omega),t3,bG (by rw[t5];omega) (by rw[t5];omega),w3];have:=fe (L:=D.now) (a:=246+bt b) (l:=jI (bC b)) (by rw[hrc];omega);rw[hrc]at this;exact this
 ·unfold St.wrote;rw[if_pos rfl];simp only[St.free];rw[Bm];rfl
 ·unfold St.wrote;rw[if_pos rfl];simp only[St.free];rw[hce,vg];rfl
 ·unfold St.wrote;rw[if_pos rfl];simp only[St.free];rw[hce,vg];rfl
 ·unfold St.wrote;rw[if_pos rfl];simp only[St.free];rw[hce,vg];rfl
theorem afC{N:Nat}(hN:N=262\/N=462):∃D,E0 (aU.made N) 5 30=(D,0)/\lF N D:=by
 have h0:Gd N (aU.made N):=Gd.made;obtain⟨a1,a2,a3,a4,a5⟩:=h0.write (a:=0) (l:=[eC 0 0]) (by simp;omega) (by intro s hs;simp at hs;subst hs;exact o6 _ _);have z5:(List.replicate 5 (Go.Av.dK [])).length=5:=by simp
 obtain⟨b1,b2,b3,b4,b5⟩:=a2.write (a:=1) (l:=List.replicate 5 (Go.Av.dK [])) (by rw[z5];omega) (by intro s hs;rw[(List.mem_replicate.1 hs).2];rfl);obtain⟨c1,c2,c3,c4,c5⟩:=b2.flush;obtain⟨d1,d2,d3,d4,d5⟩:=c2.write (a:=2) (l:=[dn lG]) (by simp;omega) (by intro s hs;simp at hs;subst hs;exact tE _);obtain⟨e1,e2,e3,e4,e5⟩:=d2.flush;have hf:E0 (aU.made N) 5 30=(((((aU.made N).write ((0:Nat):Int) [eC 0 0]).1.write ((1:Nat):Int) (List.replicate 5 (Go.Av.dK []))).1.flush.1.write ((2:Nat):Int) [dn lG]).1.flush.1,0):=by
  unfold E0;have q1:xe ((aU.made N).kept.length:Int) 5 30=0:=by rw[h0.kl];rcases hN with rfl|rfl<;>rfl
  rw[if_pos q1];show(if((aU.made N).write ((0:Nat):Int) [eC 0 0]).2=0 then IG ((aU.made N).write ((0:Nat):Int) [eC 0 0]).1 1 5 else _)=_;rw[if_pos a1];unfold IG;have q2:sE ((aU.made N).write ((0:Nat):Int) [eC 0 0]).1.kept.length 1 5=0:=by rw[a2.kl];rcases hN with rfl|rfl<;>rfl
  rw[if_pos q2];unfold fmtS;simp only[aK];show(if(((aU.made N).write ((0:Nat):Int) [eC 0 0]).1.write ((1:Nat):Int) (List.replicate 5 (Go.Av.dK []))).2=0 then
   (if(((aU.made N).write ((0:Nat):Int) [eC 0 0]).1.write ((1:Nat):Int) (List.replicate 5 (Go.Av.dK []))).1.flush.2=0 then
   (if((((aU.made N).write ((0:Nat):Int) [eC 0 0]).1.write ((1:Nat):Int) (List.replicate 5 (Go.Av.dK []))).1.flush.1.write ((2:Nat):Int) [dn lG]).2=0 then
   (if((((aU.made N).write ((0:Nat):Int) [eC 0 0]).1.write ((1:Nat):Int) (List.replicate 5 (Go.Av.dK []))).1.flush.1.write ((2:Nat):Int) [dn lG]).1.flush.2=0 then
    (((((aU.made N).write ((0:Nat):Int) [eC 0 0]).1.write ((1:Nat):Int) (List.replicate 5 (Go.Av.dK []))).1.flush.1.write ((2:Nat):Int) [dn lG]).1.flush.1,0)else _)else _)else _)else _)=_
  rw[if_pos b1,if_pos c1,if_pos d1,if_pos e1]
 refine⟨_,hf,e2,e5,?_,?_⟩
 ·rw[e3,d3,bG (by rw[c2.nl];simp;omega) (by simp),c3,b3,bG (by rw[a2.nl,z5];omega) (by omega),a3];exact fe (a:=0) (l:=[eC 0 0]) (by rw[h0.nl];simp;omega)
 ·rw[e3,d3,c3];have h1:((((aU.made N).write ((0:Nat):Int) [eC 0 0]).1.write ((1:Nat):Int) (List.replicate 5 (Go.Av.dK []))).1.now).length=N:=b2.nl;have hin:=fe (L:=((aU.made N).write ((0:Nat):Int) [eC 0 0]).1.now) (a:=1) (l:=List.replicate 5 (Go.Av.dK [])) (by rw[a2.nl,z5];omega);rw[z5,<-b3]at hin;generalize((((aU.made N).write ((0:Nat):Int) [eC 0 0]).1.write ((1:Nat):Int) (List.replicate 5 (Go.Av.dK []))).1.now)=L at h1 hin;have s1:seg (ov L 2 [dn lG]) 1 1=seg L 1 1:=bG (by rw[h1];simp;omega) (by simp);have s2:seg (ov L 2 [dn lG]) 2 1=[dn lG]:=fe (a:=2) (l:=[dn lG]) (by rw[h1];simp;omega);have s3:seg (ov L 2 [dn lG]) 3 3=seg L 3 3:=bG (by rw[h1];simp;omega) (by simp);have t1:=vH L 1 5 0 1 (by omega);have t3:=vH L 1 5 2 3 (by omega);rw[hin]at t1 t3;rw[show(5:Nat)=1+(1+3)from rfl,lC,lC,s1,s2,s3];rw[show 1+0=1 from rfl]at t1;rw[show 1+2=3 from rfl]at t3;rw[<-t1,<-t3];rfl
theorem lF.same{N:Nat}{D D':aU}(h:lF N D)(hG:Gd N D')(hn:D'.now=D.now)(hq:D'.q=D.q):lF N D':=⟨hG,hq.trans h.q,by rw[hn];exact h.head,by rw[hn];exact h.D9⟩
theorem Wn{N:Nat}(hN:N=262\/N=462){D:aU}(h:lF N D):∃D',nJ D 1 5=(D',some (iP 1 5 lG),0,0)/\lF N D':=by
 obtain⟨r1,r2,r3,r4,r5⟩:=h.gd.read (a:=1) (n:=5) (by omega);rw[h.D9]at r1;refine⟨(D.read ((1:Nat):Int) ((5:Nat):Int)).1,?_,h.same r2 r3 r5⟩;have q2:sE D.kept.length 1 5=0:=by rw[h.gd.kl];rcases hN with rfl|rfl<;>rfl
 unfold nJ;rw[if_pos q2];have e:D.read 1 5=D.read ((1:Nat):Int) ((5:Nat):Int):=rfl;rw[e,r1];simp only[if_true];rw[agG];simp only[if_true];rw[h.gd.kl];have hl:kU N BY BY.length (iP 1 5 lG)=iP 1 5 lG:=agJ hN;rw[hl];have hc:(iP 1 5 lG).n_ lG=iP 1 5 lG:=by kernel_rfl
 rw[hc];have h0:¬(0:Int)<(iP 1 5 lG).cnt:=by simp[iP]
 rw[if_neg h0];have hs:(iP 1 5 lG).settled=iP 1 5 lG:=by kernel_rfl
 rw[hs];rfl
theorem open_1{N:Nat}(hN:N=262\/N=462){D:aU}{b:List UInt8}(BR:bt b+2<N-246)(h:eU N 246 b (eC 0 0) kg D):∃D',nJ D 1 5=(D',some (iP 1 5 sO),1,0)/\eU N 246 b (eC 1 1) iW D':=by
 have W8:kg.length=5:=rfl;have aiX:iW.length=5:=rfl;obtain⟨r1,r2,r3,r4,r5⟩:=h.gd.read (a:=1) (n:=5) (by omega);have Oo:=h.D9;rw[W8]at Oo;rw[Oo]at r1;have q2:sE D.kept.length 1 5=0:=by rw[h.gd.kl];rcases hN with rfl|rfl<;>rfl
 have e:D.read 1 5=D.read ((1:Nat):Int) ((5:Nat):Int):=rfl;generalize xy:(D.read ((1:Nat):Int) ((5:Nat):Int)).1=D1 at r2 r3 r5;obtain⟨a1,a2,a3,a4,a5⟩:=r2.write (a:=0) (l:=[eC 1 1]) (by simp;omega) (by intro s hs;simp at hs;subst hs;exact o6 _ _);obtain⟨c1,c2,c3,c4,c5⟩:=a2.flush;obtain⟨d1,d2,d3,d4,d5⟩:=c2.write (a:=1) (l:=[dn sO]) (by simp;omega) (by intro s hs;simp at hs;subst hs;exact tE _);obtain⟨e1,e2,e3,e4,e5⟩:=d2.flush;have hop:aK (mN KM) D1=(((D1.write ((0:Nat):Int) [eC 1 1]).1.flush.1.write ((1:Nat):Int) [dn sO]).1.flush.1,0):=by
  have hmk:KM.kW=sO:=by kernel_rfl
  have ht:∀E:aU,KM.tell E=E.write ((1:Nat):Int) [dn sO]:=fun E=>by
   unfold Jr.tell;rw[hmk];rfl
  have hh:gC KM.cq D1=((D1.write ((0:Nat):Int) [eC 1 1]).1,0):=by
   show(if(D1.write ((0:Nat):Int) [eC 1 1]).2=0 then gC [] (D1.write ((0:Nat):Int) [eC 1 1]).1 else _)=_;rw[if_pos a1];rfl
  unfold mN;simp only[aK];rw[hh];simp only[if_true];rw[if_pos c1,ht,if_pos d1,if_pos e1]
 refine⟨((D1.write ((0:Nat):Int) [eC 1 1]).1.flush.1.write ((1:Nat):Int) [dn sO]).1.flush.1,?_,e2,e5,?_,?_,?_,?_,?_⟩
 ·unfold nJ;rw[if_pos q2,e,r1];simp only[if_true];rw[agH];simp only[if_true];rw[h.gd.kl];have hl:kU N kg kg.length (iP 1 5 lG)={KM with cnt:=0}:=agK hN;rw[hl];have hc:({KM with cnt:=0}:Jr).n_ lG=KM:=by kernel_rfl
  rw[hc];have h0:(0:Int)<KM.cnt:=by simp[KM]
  rw[if_pos h0,xy,hop];simp only[if_true];have hs:KM.settled=iP 1 5 sO:=by kernel_rfl
  rw[hs];rfl
 all_goals rw[e3,d3,c3,a3,r3]
 ·rw[bG (by rw[lX (by rw[h.gd.nl];simp;omega),h.gd.nl];simp;omega) (by simp)];exact fe (a:=0) (l:=[eC 1 1]) (by rw[h.gd.nl];simp;omega)
 ·rw[aiX,show(5:Nat)=1+4 from rfl,lC];have s1:seg (ov (ov D.now 0 [eC 1 1]) 1 [dn sO]) 1 1=[dn sO]:=fe (a:=1) (l:=[dn sO]) (by rw[lX (by rw[h.gd.nl];simp;omega),h.gd.nl];simp;omega);rw[s1,bG (by rw[lX (by rw[h.gd.nl];simp;omega),h.gd.nl];simp;omega) (by simp),bG (by rw[h.gd.nl];simp;omega) (by simp)];have t1:=vH D.now 1 5 1 4 (by omega);rw[Oo]at t1;rw[<-t1];rfl
 ·rw[aiX,bG (by rw[lX (by rw[h.gd.nl];simp;omega),h.gd.nl];simp;omega) (by simp),bG (by rw[h.gd.nl];simp;omega) (by simp)];have:=h.aG;rw[W8]at this;exact this
 ·rw[bG (by rw[lX (by rw[h.gd.nl];simp;omega),h.gd.nl];simp;omega) (by simp),bG (by rw[h.gd.nl];simp;omega) (by simp)];exact h.body
 ·rw[bG (by rw[lX (by rw[h.gd.nl];simp;omega),h.gd.nl];simp;omega) (by simp;omega),bG (by rw[h.gd.nl];simp;omega) (by simp;omega)];exact h.rc
theorem Wo{N:Nat}(hN:N=262\/N=462){D:aU}{b:List UInt8}(h:eU N 246 b (eC 1 1) iW D):∃D',nJ D 1 5=(D',some (iP 1 5 sO),0,0)/\eU N 246 b (eC 1 1) iW D':=by
 have W8:iW.length=5:=rfl;obtain⟨r1,r2,r3,r4,r5⟩:=h.gd.read (a:=1) (n:=5) (by omega);have Oo:=h.D9;rw[W8]at Oo;rw[Oo]at r1;refine⟨(D.read ((1:Nat):Int) ((5:Nat):Int)).1,?_,h.same r2 r3 r5⟩;have q2:sE D.kept.length 1 5=0:=by rw[h.gd.kl];rcases hN with rfl|rfl<;>rfl
 unfold nJ;rw[if_pos q2];have e:D.read 1 5=D.read ((1:Nat):Int) ((5:Nat):Int):=rfl;rw[e,r1];simp only[if_true];rw[agI];simp only[if_true];rw[h.gd.kl];have hl:kU N iW iW.length (iP 1 5 sO)=iP 1 5 sO:=agL hN;rw[hl];have hc:(iP 1 5 sO).n_ sO=iP 1 5 sO:=by kernel_rfl
 rw[hc];have h0:¬(0:Int)<(iP 1 5 sO).cnt:=by simp[iP]
 rw[if_neg h0];have hs:(iP 1 5 sO).settled=iP 1 5 sO:=by kernel_rfl
 rw[hs];rfl
end Go.aW
namespace Go.Av
open Go.Proofs Go.aW
theorem Wm(s:St)(hl:s.ix.length<=1000000):aI Tryz.prog 27 [.obj 6 0] ⟨[(6,bT 0 7 s),(15,bP s.ix)],[],17⟩ (.p (.sl (s.ix.map fun k=>PC.str k.key))) ⟨[(6,bT 0 7 s),(15,bP s.ix)],[],18⟩:=by
 refine QgQ (rs:=[_]) [] [] [] Tryz.func27 rfl (by simp[Tryz.ntmps27]) ?_;simp[bT,bP];refine aN (fun k:Nat=>k<=s.ix.length) (fun k=>[(9,.view 15 0 s.ix.length 4 none),(10,.p (.int s.ix.length)),(11,.p (.int k)),(3,.own 17 ((s.ix.take k).map fun k=>PC.str k.key))]) (fun _=>⟨[(6,bT 0 7 s),(15,bP s.ix)],[(17,9,1)],18⟩) (fun k=>s.ix.length-k) 0 (by simp)
  _ (wY 3 9 1 [] (.inr ⟨rfl,by simp⟩)) (aA (by simp[bT,bP])) ?_
 intro k hk;by_cases ck:k<s.ix.length
 ·have vf:=AF ck;obtain⟨K,hK⟩:∃K,s.ix[k]=K:=⟨_,rfl⟩;rw[hK]at vf;have hle:k*4+4<=s.ix.length*4:=by omega
  have Ln:List.take 4 (List.drop (k*4) (List.map AV.p (w_ s.ix)))=[.p (.str K.key),.p (.int K.order),.p (.int K.place),.p (.sl (K.body.map gS))]:=by
   rw[<-List.map_drop,<-List.map_take,vf];rfl
  have wk:IntKind.i64.wrap ((k:Int)+1)=((k+1:Nat):Int):=by rw[af (by omega) (by omega)];rfl
  have lZ:s.ix.take (k+1)=s.ix.take k++[K]:=by rw[List.take_succ_eq_append_getElem ck,hK]
  simp[ck,bT,bP,hle,Ln,wk];have sQ:(s.ix.take k).length<=1000000:=by simp;omega
  have K7:List.take (k+1) (List.map (fun k=>PC.str k.key) s.ix)=List.take k (List.map (fun k=>PC.str k.key) s.ix)++[PC.str K.key]:=by
   rw[<-List.map_take,lZ,List.map_append,List.map_take];rfl
  exact⟨fun x hx=>by obtain⟨y,_,rfl⟩:=List.mem_map.1 (List.mem_of_mem_take hx);rfl,by omega,by omega,k+1,by omega,by omega,aE [(17,19)] (by simp[K7])⟩
 ·obtain rfl:k=s.ix.length:=by omega
  simp[-aD,bT,bP,Tryz.results27];exact⟨[],by simp⟩
end Go.Av
namespace Go.aW
open Go.Av
def St.dG(s:St)(key:List UInt8)(place:Int):St:={s with rm:=(s.rm.hold [(Kn.mk key 0 place []).dD]).1}
def St.know(s:St)(un:List UInt8->eG×Int)(key:List UInt8)(place:Int):St:={((s.dG key place).read un (Kn.mk key 0 place []).dD).1 with
 rm:=((s.dG key place).rm.hold ((s.dG key place).read un (Kn.mk key 0 place []).dD).2.1.body).1,
 ord:=max s.ord ((s.dG key place).read un (Kn.mk key 0 place []).dD).2.1.order,
 ix:=s.ix++[⟨key,((s.dG key place).read un (Kn.mk key 0 place []).dD).2.1.order,place,((s.dG key place).read un (Kn.mk key 0 place []).dD).2.1.body⟩]}
end Go.aW
namespace Go.Av
open Go.Proofs Go.aW
theorem PI(un:List UInt8->eG×Int)(t:Nat)(s:St)(h:ic t s)(OO:s.ix.length<=100000)(key:List UInt8)(place:Int)(sQ:key.length<=1000)(hpl:0<=place/\place<=1000000000)(hn0:(Kn.mk key 0 place []).dD.2≠0)(hh:(s.rm.hold [(Kn.mk key 0 place []).dD]).2=true)(hu:DO un ((s.dG key place).J8 (Kn.mk key 0 place []).dD))(hr:((s.dG key place).read un (Kn.mk key 0 place []).dD).2.2=0)(ho:((s.dG key place).read un (Kn.mk key 0 place []).dD).2.1.Ok)(hk:((s.dG key place).read un (Kn.mk key 0 place []).dD).2.1.uri++10::((s.dG key place).read un (Kn.mk key 0 place []).dD).2.1.var=key)(mg:((s.dG key place).read un (Kn.mk key 0 place []).dD).2.1.body.length<=8)(G4:((s.dG key place).rm.hold ((s.dG key place).read un (Kn.mk key 0 place []).dD).2.1.body).2=true):aI Tryz.prog 175 [.obj 6 0,.p (.agg false [.str key,.int place])] ⟨bF 0 7 s,eR 7,17⟩ (.p (.int 0)) ⟨bF 0 17 (s.know un key place),eR 17,27⟩:=by
 have Ut:=CA (Kn.mk key 0 place []) hpl;have Hy:(0<=(Kn.mk key 0 place []).dD.1/\(Kn.mk key 0 place []).dD.1<=4000000):=by unfold Kn.dD;simp only;omega
 have Lu:ic t (s.dG key place):={h with rm:=(h.rm.hold _).1,J0:=by have:=(h.rm.hold [(Kn.mk key 0 place []).dD]).2;unfold St.dG;simp only[this];exact h.J0};have hrd:=Mq un t (s.dG key place) Lu (Kn.mk key 0 place []).dD Hy hu;have h1:=Am 5 12 13 14 18 s.rm.n (by constructor<;>omega) h.rm.n _ _ _ h.rm.F h.rm.R h.rm.W [(Kn.mk key 0 place []).dD] (by simp);obtain⟨Z,hZ⟩:∃Z,s.know un key place=Z:=⟨_,rfl⟩;rw[hZ];unfold St.know at hZ;have f1:(s.dG key place).rm=(s.rm.hold [(Kn.mk key 0 place []).dD]).1:=rfl;have hq1:d_ s.rm.n s.rm.F [(Kn.mk key 0 place []).dD]=true:=hh;rw[hq1]at h1;simp only[if_true]at h1;obtain⟨F1,hF1⟩:∃F1,([(Kn.mk key 0 place []).dD].map toE).foldl fy s.rm.F=F1:=⟨_,rfl⟩;have hs1:s.dG key place={s with rm:={s.rm with F:=F1}}:=by
  unfold St.dG Mp.hold;simp only[hq1,if_true,hF1]
 rw[hF1]at h1;rw[hs1]at hrd hr ho hk mg G4 hZ Lu;have hxn:(Kn.mk key 0 place []).dD.2≠0:=hn0;obtain⟨rx,anc⟩:∃rx,(Kn.mk key 0 place []).dD=rx:=⟨_,rfl⟩;rw[anc]at Ut hrd h1 hr ho hk mg G4 hZ hxn;obtain⟨Y,hY⟩:∃Y,St.read un {s with rm:={s.rm with F:=F1}} rx=Y:=⟨_,rfl⟩;have XZ:Y.1={s with rm:={s.rm with F:=F1},D:=Y.1.D}:=by rw[<-hY];rfl
 rw[hY]at hrd hr ho hk mg G4 hZ;obtain⟨u,o,c⟩:=Y;simp only at hrd hr ho hk mg G4 hZ XZ;subst hr;obtain⟨D',hD'⟩:∃D',u.D=D':=⟨_,rfl⟩;rw[hD']at XZ;subst XZ;simp only at hrd G4 hZ;have X0:=Lu.rm;have h2:=Am 5 24 25 26 30 s.rm.n (by constructor<;>omega) h.rm.n F1 s.rm.R s.rm.W X0.F X0.R X0.W o.body (by omega);have hq2:d_ s.rm.n F1 o.body=true:=G4;rw[hq2]at h2;simp only[if_true]at h2;have hK:=Fq o.uri o.var ho.uri ho.var;rw[hk]at hK;refine aj (rs:=[_]) [] [(2,[(0,.r 1),(1,.w [1,2]),(8,.r 2),(9,.r 1),(10,.w [1,2]),(12,.w [1,2])]),(7,[(1,.r 3),(3,.r 3),(4,.w [2,3]),(12,.r 2),(14,.r 3),(15,.w [2,3])]),(9,[(1,.r 3),(3,.r 3),(5,.s 1 [3]),(7,.s 1 [3])]),(10,[(4,.r 2),(6,.r 3),(10,.s 2 [3])]),(11,[(4,.r 2),(5,.r 1),(7,.w [1,2]),(10,.s 2 [1])])] [(1,17),(2,6),(3,29)] mixed Tryz.func175 rfl (by kernel_rfl) (by kernel_rfl) (by simp[Tryz.ntmps175]) rfl ?_;have c0:(rx.2==0)=false:=by simpa using hxn
 simp[bF,aC,ax,bZ,bT,bP,b_];refine ai Ut (by simp) ?_;simp[c0];refine ai Ut (by simp) ?_;simp;refine az h1 (by simp) (by simp[ay]) (by simp[ay]) rfl ?_;simp;refine ai Ut (by simp) ?_;simp;refine ak [0,1,2,3,4,5,6,7,8,9,10,11,18,13,14,15,16] hrd (by simp) (by simp) (by simp[ay,bF,aC,ax,bZ,bT,bP,b_]) (by simp[ay]) ?_;simp[bF,aC,ax,bZ,bT,bP,b_];refine ai hK (by simp) ?_;simp;refine az h2 (by simp) (by simp[ay]) (by simp[ay]) rfl ?_;rw[<-hZ];have O0:(if s.ord<o.order then o.order else s.ord)=max s.ord o.order:=by omega
 have lZ:List.take (s.ix.length*4) (List.map AV.p (w_ s.ix))=List.map AV.p (w_ s.ix):=List.take_of_length_le (by simp);have nT:w_ [⟨key,o.order,place,o.body⟩]=[PC.str key,.int o.order,.int place,.sl (o.body.map gS)]:=rfl;have hhl:Mp.hold {n:=s.rm.n,F:=F1,R:=s.rm.R,W:=s.rm.W} o.body=({n:=s.rm.n,F:=(o.body.map toE).foldl fy F1,R:=s.rm.R,W:=s.rm.W},true):=by unfold Mp.hold;simp only[hq2,if_true]
 simp[-aD,O0,lZ,FV,nT,hhl,Tryz.results175];exact⟨by omega,by omega,[(17,19),(18,20),(19,21),(20,22),(21,23),(22,30),(23,25),(24,26),(25,31),(26,28)],by simp⟩
end Go.Av
namespace Go.aW
open Go.Av
def fH(m:Mp)(l:List Int):Mp:=l.foldl (fun m p=>(m.hold [(p-1,1)]).1) m
theorem DM(m:Mp)(l:List Int)(p:Int):fH m (l++[p])=((fH m l).hold [(p-1,1)]).1:=by simp[fH]
theorem qV{m:Mp}(h:qf m)(l:List Int):qf (fH m l)/\(fH m l).n=m.n/\(fH m l).R=m.R/\(fH m l).W=m.W:=by
 induction l generalizing m with
 |nil=>exact⟨h,rfl,rfl,rfl⟩
 |cons p l ih=>
  obtain⟨h1,h2⟩:=h.hold [(p-1,1)];obtain⟨k1,k2,k3,k4⟩:=ih h1;exact⟨k1,k2.trans h2,k3,k4⟩
def iV(un:List UInt8->eG×Int):List (List UInt8×Int)->St->St
 |[],s=>s
 |x::l,s=>iV un l (s.know un x.1 x.2)
theorem vZ(un:List UInt8->eG×Int):∀(l:List (List UInt8×Int)) (x:List UInt8×Int) (s:St),iV un (l++[x]) s=(iV un l s).know un x.1 x.2
 |[],_,_=>rfl
 |_::l,x,s=>vZ un l x _
structure DN(un:List UInt8->eG×Int)(t:Nat)(s:St)(key:List UInt8)(place:Int):Prop where
 ok:ic t s
 il:s.ix.length<=100000
 kl:key.length<=1000
 pl:0<=place/\place<=1000000000
 n0:(Kn.mk key 0 place []).dD.2≠0
 hh:(s.rm.hold [(Kn.mk key 0 place []).dD]).2=true
 hu:DO un ((s.dG key place).J8 (Kn.mk key 0 place []).dD)
 hr:((s.dG key place).read un (Kn.mk key 0 place []).dD).2.2=0
 ho:((s.dG key place).read un (Kn.mk key 0 place []).dD).2.1.Ok
 hk:((s.dG key place).read un (Kn.mk key 0 place []).dD).2.1.uri++10::((s.dG key place).read un (Kn.mk key 0 place []).dD).2.1.var=key
 mg:((s.dG key place).read un (Kn.mk key 0 place []).dD).2.1.body.length<=8
 G4:((s.dG key place).rm.hold ((s.dG key place).read un (Kn.mk key 0 place []).dD).2.1.body).2=true
structure Aa(un:List UInt8->eG×Int)(t:Nat)(s:St)(c1 c2 c4:Cs)(P:List Int)(L:List (List UInt8×Int)):Prop where
 ok:ic t s
 check:bA.check ⟨s,[],[]⟩ s.root=(c1,0)
 pages:bA.pages c1 s.root=(c2,P,0)
 pl:P.length<=1000000
 pb:∀p∈P,-1000000<=p/\p<=1000000
 hold:∀k (hk:k<P.length),((fH c2.s.sl (P.take k)).hold [(P[k]-1,1)]).2=true
 scan:bA.scan {c2 with s:={c2.s with sl:=fH c2.s.sl P}} s.root [] 65536=(c4,L,0)
 ll:L.length<=65536
 know:∀k (hk:k<L.length),DN un t (iV un (L.take k) c4.s) L[k].1 L[k].2
theorem V4(un:List UInt8->eG×Int){N t:Nat}(hN:N=262\/N=462){D:aU}(h:lF N D):Aa un t (jB N D) ⟨jB N D,[],[]⟩ ⟨jB N D,[],[]⟩ ⟨jB N D,[],[]⟩ [] []:=by
 have hr:(jB N D).root=0:=rfl;refine⟨KS hN h.gd (by rw[h.q];simp),?_,?_,by simp,by simp,fun k hk=>by simp at hk,?_,by simp,fun k hk=>by simp at hk⟩
 ·rw[hr];simp[Go.cI.ey.check]
 ·rw[hr];simp[Go.cI.ey.pages]
 ·rw[hr];simp[Go.cI.ey.scan,fH]
def nU(N:Nat)(D:aU):St:=⟨D,iP 1 5 sO,5,30,1,Mp.new 30,Mp.new (N-246),[],0,[],true⟩
theorem KT{N t:Nat}(hN:N=262\/N=462){D:aU}(h:Gd N D)(hq:D.q.length<=t*t):ic t (nU N D):=by
 have hk:=h.kl;refine⟨h.DZ (by omega) hq,agO t (by simp[sO]) (by simp[sO]),by simp[nU],by simp[nU],?_,lI (by omega) (by omega),lI (by omega) (by omega),rfl,?_,by simp[nU],by simp[nU],by simp[nU],by simp[nU],by simp[nU],by simp[nU]⟩
 ·simp only[nU,cG,hk];omega
 ·simp only[nU,cG,hk,Mp.new];omega
theorem B2{n m k:Nat}(h1:1<=k)(h2:m+k<=n):((Mp.new n).hold [((m:Int),(k:Int))]).2=true:=by
 have ha:gY [(0,n)] m=0:=vE (by omega);show d_ n [(0,n)] _=true;unfold d_;rw[tn h1 h2];simp[toE_nat,hasB,ha];omega
theorem Hv{n m k:Nat}(h1:1<=k)(h2:m+k<n):(((Mp.new n).hold [((m:Int),(k:Int))]).1.hold (mo m)).2=true:=by
 have ha:gY [(0,n)] m=0:=vE (by omega);have hh:=B2 (n:=n) (m:=m) (k:=k) h1 (by omega);have hF:((Mp.new n).hold [((m:Int),(k:Int))]).1.F=fy [(0,n)] (m,k):=by
  have Vo:d_ n [(0,n)] [((m:Int),(k:Int))]=true:=hh;unfold Mp.hold;show(if d_ n [(0,n)] [((m:Int),(k:Int))]=true then _ else _)=_;rw[if_pos Vo];simp[toE_nat,Mp.new]
 unfold mo;by_cases c:m=0
 ·rw[if_pos c];have h0:∀(n:Nat) (F:List Ext),d_ n F []=true:=fun n F=>by simp[d_,iB]
  show d_ ((Mp.new n).hold [((m:Int),(k:Int))]).1.n ((Mp.new n).hold [((m:Int),(k:Int))]).1.F []=true;exact h0 _ _
 ·rw[if_neg c];show d_ n ((Mp.new n).hold [((m:Int),(k:Int))]).1.F [(0,(m:Int))]=true;rw[hF];have hc:∃T,fy [(0,n)] (m,k)=(0,m)::T:=by
   unfold fy;rw[ha];have:0<m:=by omega
   simp[om,this]
  obtain⟨T,hT⟩:=hc;have hz:gY ((0,m)::T) 0=0:=by
   unfold gY;rw[List.takeWhile_cons_of_neg (by simp;omega)];rfl
  unfold d_;have hr:=tn (n:=n) (a:=0) (k:=m) (by omega) (by omega);rw[show((0:Nat):Int)=0 from rfl]at hr;rw[hr,hT];have he:toE (0,(m:Int))=(0,m):=by simp[toE]
  simp[he,hasB,hz]
theorem V5{N t:Nat}(hN:N=262\/N=462){D:aU}{b:List UInt8}(hb:b.length<=3000)(BR:bt b+2<N-246){hd:cU}{all:List cU}(hall:all.length=5)(h:eU N 246 b hd all D):∃c1 c2 c4 s',Aa (fun _=>(bC b,0)) t (nU N D) c1 c2 c4 [1] [(fD,(bt b:Int)*256+2)]/\s'=iV (fun _=>(bC b,0)) [(fD,(bt b:Int)*256+2)] c4.s/\s'.ix=[nT b]/\s'.jn=5/\s'.pn=30/\eU N 246 b hd all s'.D/\ic t s'/\s'.sl.n=30/\s'.rm.n=(N-246):=by
 obtain⟨v,hv⟩:∃v,(bt b:Int)*256+2=v:=⟨_,rfl⟩;have DK:=h.aG;rw[hall,hv]at DK;have V6:Go.cI.jY fD v=true:=KU (by omega) (by omega);have hroot:(nU N D).root=1:=rfl;obtain⟨D1,a1,a2,a3,a4⟩:=Hw (c:=⟨nU N D,[],[]⟩) (j:=5) V6 h.gd rfl (by simp[nU]) (by omega) DK;obtain⟨D2,b1,b2,b3,b4⟩:=Hx (c:=(⟨nU N D,[],[]⟩:Cs).dev D1) (j:=5) V6 a2 rfl (by simp[nU,Cs.dev]) (by omega) (by show seg D1.now _ _=_;rw[a3];exact DK);have hF:=B3 (M:=Mp.new 30) (a:=0) (n:=30) (k:=1) rfl (by omega) (by omega) (by simp[Mp.new]);rw[show((0:Nat):Int)=0 from rfl,show((1:Nat):Int)=1 from rfl]at hF;have b3':D2.now=D.now:=b3.trans a3;obtain⟨D3,d1,d2,d3,d4⟩:=KV (c:=⟨{nU N D2 with sl:=fH (Mp.new 30) [1]},[],[]⟩) (j:=5) V6 b2 rfl (by simp[nU]) (by omega) (by show seg D2.now _ _=_;rw[b3'];exact DK);have hD3:eU N 246 b hd all D3:=h.same d2 (d3.trans b3') ((d4.trans b4).trans a4);obtain⟨s4,rH⟩:∃s4:St,s4={nU N D3 with sl:=fH (Mp.new 30) [1]}:=⟨_,rfl⟩;have jJ:=qV (lI (n:=30) (by omega) (by omega)) [1];have Jl:ic t s4:=by
  have:=KT (t:=t) hN hD3.gd (by rw[hD3.q];simp);rw[rH];exact{this with sl:=jJ.1,T6:=by simp only[jJ.2.1];rfl}
 have vb:cG s4.jn s4.pn=((246:Nat):Int):=by rw[rH];rfl
 have Hy:(Kn.mk fD 0 v []).dD=((bt b:Int),2):=by
  unfold Kn.dD;simp only;rw[<-hv];congr 1<;>omega
 have fu:=B2 (n:=(N-246)) (m:=bt b) (k:=2) (by omega) (by omega);have G4:=Hv (n:=(N-246)) (m:=bt b) (k:=2) (by omega) (by omega);rw[show((2:Nat):Int)=2 from rfl]at fu G4;have sN:s4.rm=Mp.new (N-246):=by rw[rH];rfl
 have amL:(s4.dG fD v).D=D3:=by rw[rH];rfl
 obtain⟨D4,r1,r2,r3⟩:=D5 (s:=s4.dG fD v) (by rw[amL];exact hD3) (by omega) vb (by omega);have hun:DO (fun _=>(bC b,0)) (bC b).pack:=by
  have:=y9 (bC b) (FD b (by omega)) (by have:=o5 b (by omega);omega) (vw b (by omega)) (qm b (by omega)) rfl rfl;exact this
 have hK:DN (fun _=>(bC b,0)) t s4 fD v:=by
  refine⟨Jl,by rw[rH];simp[nU],by decide,by omega,by rw[Hy];simp,?_,?_,?_,?_,?_,?_,?_⟩
  ·rw[Hy,sN];exact fu
  ·rw[Hy];unfold St.J8;rw[r3];exact hun
  ·rw[Hy,r1]
  ·rw[Hy,r1];exact vw b (by omega)
  ·rw[Hy,r1];rfl
  ·rw[Hy,r1];have:=(Al b (by omega)).bl;exact this
  ·rw[Hy,r1];show(((s4.rm.hold [(Kn.mk fD 0 v []).dD]).1).hold (mo (bt b))).2=true;rw[Hy,sN];exact G4
 refine⟨(⟨nU N D,[],[]⟩:Cs).dev D1,((⟨nU N D,[],[]⟩:Cs).dev D1).dev D2,⟨s4,[],[]⟩,_,⟨KT hN h.gd (by rw[h.q];simp),?_,?_,by simp,by simp,?_,?_,by simp,?_⟩,rfl,?_,?_,?_,?_,?_,?_,?_⟩
 ·rw[hroot];exact a1
 ·rw[hroot];exact b1
 ·intro k hk;simp at hk;subst hk;show(((Mp.new 30).hold [(1-1,1)])).2=true;rw[show((1:Int)-1)=0 from rfl,hF]
 ·rw[hroot];have e:(⟨{nU N D2 with sl:=fH (Mp.new 30) [1]},[],[]⟩:Cs)={((⟨nU N D,[],[]⟩:Cs).dev D1).dev D2 with s:={(((⟨nU N D,[],[]⟩:Cs).dev D1).dev D2).s with sl:=fH (((⟨nU N D,[],[]⟩:Cs).dev D1).dev D2).s.sl [1]}}:=rfl;rw[<-e,d1,rH];rw[hv];rfl
 ·intro k hk;simp at hk;subst hk;show DN _ t s4 fD _;rw[hv];exact hK
 all_goals
  simp only[iV,hv];unfold St.know;rw[Hy,r1]
 ·rw[rH];simp only[nU,List.nil_append];rw[<-hv];rfl
 ·rw[rH];rfl
 ·rw[rH];rfl
 ·exact r2
 ·have V7:(s4.dG fD v).rm=(s4.rm.hold [((bt b:Int),2)]).1:=by unfold St.dG;rw[Hy]
  have hmm:=(Jl.rm.hold [((bt b:Int),2)]);have agP:=(hmm.1.hold (bC b).body);refine{Jl with D:=?_,sz:=?_,rm:=?_,J0:=?_,ixl:=?_,ix:=?_,srt:=?_,ord:=?_,jn:=Jl.jn,pn:=Jl.pn,sl:=Jl.sl,T6:=Jl.T6,lJ:=Jl.lJ,root:=Jl.root,J:=Jl.J}
  ·exact r2.gd.DZ (by omega) (by rw[r2.q];simp)
  ·show cG s4.jn s4.pn+16<=(D4.kept.length:Int);rw[vb,r2.gd.kl];omega
  ·show qf ((s4.dG fD v).rm.hold _).1;rw[V7];exact agP.1
  ·show((((s4.dG fD v).rm.hold _).1.n:Nat):Int)=(D4.kept.length:Int)-cG s4.jn s4.pn;rw[V7,agP.2,hmm.2,vb,r2.gd.kl,sN];simp[Mp.new];omega
  ·rw[rH];simp[nU]
  ·rw[rH];intro k hk;simp[nU]at hk;subst hk;have:=Al b (by omega);rw[<-hv];exact this
  ·rw[rH];simp[nU]
  ·rw[rH];show 0<=max 0 (bC b).order/\max 0 (bC b).order<=_;have:(bC b).order=1:=rfl;rw[this];omega
 ·rw[rH];exact jJ.2.1
 ·show((s4.dG fD v).rm.hold _).1.n=(N-246);rw[rH];rfl
def Lf(s:St):Sm:=⟨s,cw,[],false,false⟩
theorem Lh{N t:Nat}(hN:N=262\/N=462)(ht:1000<=t/\t<=20000){D:aU}(h:lF N D):wF N t 246 (jB N D) cw [] (Lf (jB N D)):=by
 refine⟨⟨D,[],?_⟩,?_,rfl,rfl,rfl,KS hN h.gd (by rw[h.q];simp),h.gd,?_,fun a n _=>rfl,?_⟩
 ·simp[Lf,jB,Mp.new]
 ·have h0:tc 0 []=0:=by decide
  simp only[Lf];rw[h0];rfl
 ·simp[Lf,jB,h.q]
 ·simp[seg]
theorem Li{N t:Nat}(hN:N=262\/N=462)(ht:1000<=t/\t<=20000){D:aU}(h:lF N D):SmS N t 246 (jB N D):=by
 refine⟨by omega,rfl,?_,by simp[jB,h.q],ht⟩;simp[jB,Mp.new];omega
structure T9(N t:Nat)(b:List UInt8)(w w1:Sm)(s2:St):Prop where
 ended:w.ended=false
 sec:dW (bn w.rest) w=(w1,0)
 rest:w.rest.length<=2000000
 hC:∀k w',k<(bn w.rest).length->dW ((bn w.rest).take k) w=(w',0)->pU t w'
 ent:{w1.e with order:=w1.s.ord+1}=bC b
 ord:w1.s.ord=0
 pk:(bC b).wP=((bC b).pack,0)
 pl:(bC b).pack.length<=8000
 s:ic t w1.s
 fit:(w1.s.rm.F.any fun x=>decide ((jI (bC b)).length<=x.2))=true
 rx:w1.s.AB (bC b)=((bt b:Int),2)
 run:w1.s.rm.run (jI (bC b)).length<w1.s.rm.F.length
 wr:(w1.s.Ec (bC b)).2=0
 put:agZ t (t+8) (t+100) w1.s (w1.s.AE (bC b)) (bC b) ((bt b:Int),2) (nT b)
 res:(w1.s.AE (bC b)).BA 1 (nT b)=(s2,0)
 ok:ic (t+200) s2
 ag0:eU N 246 b (eC 0 0) kg s2.D
 ix:s2.ix=[nT b]
 jn:s2.jn=5
 pn:s2.pn=30
 ag1:s2.ord=0
theorem FY{N t:Nat}(hN:N=262\/N=462)(ht:1000<=t/\t<=10000){D0:aU}(h0:lF N D0){b:List UInt8}(hb:b.length<=3000)(BR:bt b+2<N-246){w:Sm}(h:wF N t 246 (jB N D0) cw b w):∃w1 s2,T9 N t b w w1 s2:=by
 have hs:=Li (t:=t) hN (by omega) h0;have Wj:(jB N D0).rm.n=N-246:=rfl;have hq0:(jB N D0).D.q.length=0:=by simp[jB,h0.q]
 obtain⟨R,D,l1,l2,l3,l4,l5,l6,l7⟩:=h.last hs (by rw[Wj];unfold bt at BR;omega) (by omega);rw[Wj]at l1 l4;rw[hq0]at l3;have hm:bt b<=47:=by unfold bt;omega
 have hD:(b.length+63)/64=bt b:=rfl;rw[hD]at l1 l3 l4 l6;obtain⟨s,s1,s2,p1,p2,p3,p4,p5,p6,p7,p8,p9,Tv,Fl,Fm,N9,Vv⟩:=Lj hN ht h0 hb BR (R:=R) l2 (by omega) l4 l5 l6;subst p1;subst p2;refine⟨_,s2,⟨h.ended,l1,?_,l7,?_,rfl,Pv b (by omega),?_,?_,?_,?_,?_,?_,?_,?_,p9,Tv,Fl,Fm,N9,Vv⟩⟩
 ·rw[h.rest];simp;omega
 ·simp only;rw[h.he];rfl
 ·have:=o5 b (by omega);omega
 ·simp only;exact l4
 ·exact p5
 ·exact p3
 ·exact p6
 ·exact p4
 ·exact p7
 ·exact p8
@[simp]theorem amO(m:Mp)(es:List (Int×Int)):(m.hold es).1.R=m.R:=rfl
@[simp]theorem amP(m:Mp)(es:List (Int×Int)):(m.hold es).1.W=m.W:=rfl
@[simp]theorem amQ(m:Mp)(es:List (Int×Int)):(m.hold es).1.n=m.n:=rfl
theorem Wh(m:Mp)(es:List (Int×Int)):(m.hold es).1.F=if d_ m.n m.F es=true then(es.map toE).foldl fy m.F else m.F:=rfl
end Go.aW
namespace Go.Av
open Go.Proofs Go.aW
open Go.cI (je)
theorem Wi(un:List UInt8->eG×Int)(t:Nat)(s:St)(c1 c2 c4:Cs)(P:List Int)(L:je)(hr:jT s.root)(h:Aa un t s c1 c2 c4 P L):aI Tryz.prog 75 [.obj 6 0,.p (.int L.length)] ⟨bF 0 7 s,eR 7,17⟩ (.p (.int 0)) ⟨bF 0 17 (iV un L c4.s),eR 17,27⟩:=by
 have hS:=h.ok;have c0:fq t ⟨s,[],[]⟩:=⟨hS,by simp,by simp,by simp,by simp⟩;have Z':=Lb s.root;have hck:=Lc t ⟨s,[],[]⟩ c0 s.root hr;rw[h.check]at hck;simp only at hck;have Ea:fq t c1:=by
  have h1:=h.check;unfold Go.cI.ey.check at h1;split at h1
  ·injection h1 with h1 _;rw[<-h1];exact c0
  ·injection h1 with h1 _;rw[<-h1];exact(jL (t:=t) (pn:=s.pn) 40 0 (by omega) ⟨s,[],[]⟩ s.root [] none ⟨[],-1⟩ c0 rfl (by simp) ⟨by simp,by simp⟩).ok
 have DK:=JG t c1 c2 Ea s.root hr P h.pages (by have:=h.pl;omega);have Br:fq t c2:=by
  have h1:=h.pages;unfold Go.cI.ey.pages at h1;split at h1
  ·injection h1 with h1 _;rw[<-h1];exact Ea
  ·have:=qa (t:=t) 40 c1 s.root [] Ea;rw[h1]at this;exact this
 have hm2:=qV Br.s.sl P;have hc3:fq t {c2 with s:={c2.s with sl:=fH c2.s.sl P}}:={Br with s:={Br.s with sl:=hm2.1,T6:=by simp only[hm2.2.1];exact Br.s.T6}};have hsc:=PG t _ c4 hc3 s.root hr [] 65536 L h.scan (by have:=h.ll;omega);have hpl:=h.pl;have GX:=h.ll;have hpb:=h.pb;have hho:=h.hold;have hkn:=h.know;clear h;refine iA (rs:=[_]) [17] [] [] Tryz.func75 rfl (by kernel_rfl) (by kernel_rfl) (by simp[Tryz.ntmps75]) rfl ?_;refine bS mixed (fun _:Unit=>True) (fun _=>[(0,.obj 6 0),(1,.p (.int L.length))]) (fun _=>⟨bF 0 7 s,eR 7,17⟩) ?_ (fun _ _=>?_)
 ·simp[bF,aC,ax,bZ,bT,bP,b_];exact aA (by simp)
 refine bS mixed (fun _:Unit=>True) (fun _=>[(0,.obj 6 0),(1,.p (.int L.length)),(5,.obj 18 0)]) (fun _=>⟨(18,⟨371,2,[.kV 276 (.obj 17 0),.p (.int s.root)]⟩)::(17,⟨278,3,[.obj 6 0,.p .nil,.p .nil]⟩)::bF 0 7 s,eR 7,19⟩) ?_ (fun _ _=>?_)
 ·simp[bF,aC,ax,bZ,bT,bP,b_];refine ak [17] Z' (by simp) (by simp) (by simp) (by simp) ?_;simp;exact aA (by simp)
 refine oA (iu 17 1 3 1 ⟨278,3,[.obj 6 0,.p .nil,.p .nil]⟩ [] (by simp[lk]) (.inr ⟨rfl,rfl⟩)) ?_;refine oA (iu 17 2 3 1 ⟨278,3,[.obj 6 0,.own 19 [],.p .nil]⟩ [] (by simp[Tb.aQ,Tb.bX]) (.inr ⟨rfl,rfl⟩)) ?_;refine ga mixed ?_;simp[bF,aC,ax,bZ,bT,bP,b_,Tb.aQ,Tb.bX,del];refine ak [0,1,2,3,4,5,6,17,7,8,9,10,11,12,13,14,15,16,19,20,18] hck (by simp) (by simp) (by simp[ay,jf,qL,yT,bF,aC,ax,bZ,bT,bP,b_]) (by simp[ay]) ?_;simp[jf,qL,yT,bF,aC,ax,bZ,bT,bP,b_];refine ak [0,1,2,3,4,5,6,17,21,22,23,24,25,26,27,28,29,30,31,32,18] DK (by simp) (by simp) (by simp[ay,jf,qL,yT,bF,aC,ax,bZ,bT,bP,b_]) (by simp[ay]) ?_;simp[jf,qL,yT,bF,aC,ax,bZ,bT,bP,b_];have hn2:∀l,(fH c2.s.sl l).n=c2.s.sl.n/\(fH c2.s.sl l).R=c2.s.sl.R/\(fH c2.s.sl l).W=c2.s.sl.W:=fun l=>(qV Br.s.sl l).2;refine aN (fun k:Nat=>k<=P.length) (fun k=>[(0,.obj 6 0),(1,.p (.int L.length)),(5,.obj 18 0),(39,.p (.sl (P.map PC.int))),(40,.p (.int P.length)),(41,.p (.int k))]) (fun k=>⟨[(17,⟨278,3,[.obj 6 0,.own 43 (c2.saved.map PC.int),.own 44 (c2.old.map PC.int)]⟩),(18,⟨371,2,[.kV 276 (.obj 17 0),.p (.int s.root)]⟩),(0,aC 0 33 c2.s.D),(1,ax c2.s.D.kept),(2,ax c2.s.D.now),(3,eY 0 34 c2.s.J),(4,iM c2.s.sl.n 45 36 37 (fH c2.s.sl (P.take k)).F c2.s.sl.R c2.s.sl.W),(5,bZ 38 c2.s.rm),(6,bT 0 33 c2.s),(45,cn (fH c2.s.sl (P.take k)).F),(36,cn c2.s.sl.R),(37,cn c2.s.sl.W),(38,cn c2.s.rm.F),(39,cn c2.s.rm.R),(40,cn c2.s.rm.W),(41,bP c2.s.ix),(42,b_ c2.s.lJ)],[(33,174,65),(34,364,2),(43,3,1),(44,3,1)],46⟩) (fun k=>P.length-k) 0 (by simp) _ (AS.le_refl _ _) (aE [(45,35)] (by simp[aC,ax,bZ,bT,bP,b_,fH])) ?_;intro k hk;by_cases ck:k<P.length
 ·have wk:IntKind.i64.wrap ((k:Int)+1)=((k+1:Nat):Int):=by rw[af (by omega) (by omega)];rfl
  obtain⟨m1,m2,m3,m4⟩:=qV Br.s.sl (P.take k);have hb:=hpb P[k] (List.getElem_mem ck);have w1:IntKind.i64.wrap (P[k]-1)=P[k]-1:=af (by omega) (by omega);have hh:=Am 4 45 36 37 46 (fH c2.s.sl (P.take k)).n (by constructor<;>omega) m1.n _ _ _ m1.F m1.R m1.W [(P[k]-1,1)] (by simp);have hq:d_ (fH c2.s.sl (P.take k)).n (fH c2.s.sl (P.take k)).F [(P[k]-1,1)]=true:=hho k ck;have hF:(fH c2.s.sl (P.take (k+1))).F=([(P[k]-1,1)].map toE).foldl fy (fH c2.s.sl (P.take k)).F:=by
   rw[List.take_succ_eq_append_getElem ck,DM,Wh,if_pos hq]
  rw[hq]at hh;simp only[if_true]at hh;rw[<-hF,m2,m3,m4]at hh;simp[ck,w1,aC,ax,bZ,bT,bP,b_];refine az hh (by simp) (by simp[ay]) (by simp[ay]) rfl ?_;simp[wk];exact⟨k+1,by omega,by omega,aE [(45,46)] (by simp)⟩
 ·obtain rfl:k=P.length:=by omega
  obtain⟨m2,m3,m4⟩:=hn2 P;simp[aC,ax,bZ,bT,bP,b_];refine ak [0,1,2,3,4,5,6,17,33,34,45,36,37,38,39,40,41,42,43,44,18] hsc (by simp) (by simp) (by simp[ay,jf,qL,yT,bF,aC,ax,bZ,bT,bP,b_,m2,m3,m4]) (by simp[ay]) ?_;simp[jf,qL,yT,bF,aC,ax,bZ,bT,bP,b_];obtain⟨s4,rH⟩:∃s4,c4.s=s4:=⟨_,rfl⟩;rw[rH]at hkn⊢;clear hck DK hsc hho hn2 Z' hm2 hc3 Br Ea;refine aN (fun k:Nat=>k<=L.length) (fun k=>[(0,.obj 6 0),(69,.p (agY L)),(70,.p (.int L.length)),(71,.p (.int k))]) (fun k=>⟨bF 0 46 (iV un (L.take k) s4),eR 46,58⟩) (fun k=>L.length-k) 0 (by simp) _ (AS.le_refl _ _) (aA (by simp[iV,bF,aC,ax,bZ,bT,bP,b_])) ?_;intro k hk;by_cases ck:k<L.length
  ·have wk:IntKind.i64.wrap ((k:Int)+1)=((k+1:Nat):Int):=by rw[af (by omega) (by omega)];rfl
   have hK:=hkn k ck;have rQ:=PI un t _ hK.ok hK.il L[k].1 L[k].2 hK.kl hK.pl hK.n0 hK.hh hK.hu hK.hr hK.ho hK.hk hK.mg hK.G4;have hsn:iV un (L.take (k+1)) s4=(iV un (L.take k) s4).know un L[k].1 L[k].2:=by rw[List.take_succ_eq_append_getElem ck,vZ]
   rw[<-hsn]at rQ;simp[ck,bF,aC,ax,bZ,bT,bP,b_];refine ak [0,1,2,3,4,5,6,46,47,48,49,50,51,52,53,54,55] rQ (by simp) (by simp) (by simp[ay,bF,aC,ax,bZ,bT,bP,b_]) (by simp[ay]) ?_;simp[wk,bF,aC,ax,bZ,bT,bP,b_];exact⟨k+1,by omega,by omega,aE [(46,59),(47,60),(48,61),(49,62),(50,63),(51,64),(52,65),(53,66),(54,67),(55,68)] (by simp)⟩
  ·obtain rfl:k=L.length:=by omega
   simp[-aD,bF,aC,ax,bZ,bT,bP,b_,Tryz.results75];exact⟨[(17,46),(18,47),(19,48),(20,49),(21,50),(22,51),(23,52),(24,53),(25,54),(26,55)],by simp⟩
end Go.Av
namespace Go.aW
end Go.aW
namespace Go.Av
open Go.Proofs Go.aW
theorem XJ(l:List Kn)(hl:l.length<=1000000):aI Tryz.prog 77 [.view 0 0 l.length 4 none] ⟨[(0,bP l)],[],1⟩ (.view 1 0 l.length 4 none) ⟨[(1,bP l)],[],2⟩:=by
 have lZ:List.take (l.length*4) (List.map AV.p (w_ l))=List.map AV.p (w_ l):=List.take_of_length_le (by simp);refine QgQ (rs:=[_]) [8] [(1,[(5,.w [])])] [] Tryz.func77 rfl (by simp[Tryz.ntmps77]) ?_;simp[-aD,bP,lZ,Tryz.results77];exact⟨[],by simp⟩
end Go.Av
namespace Go.aW
open Go.Av
def mk0(D:aU)(J:Jr)(jn pn root:Int)(r:Nat):St:=⟨D,J,jn,pn,root,Mp.new pn.toNat,Mp.new r,[],0,[],true⟩
structure Lq(un:List UInt8->eG×Int)(t:Nat)(D:aU)(jn pn:Int)(D1 D2:aU)(J:Jr)(k:Int)(hd:cU)(root:Int)(r:Nat)(c1 c2 c4:Cs)(P:List Int)(L:List (List UInt8×Int)):Prop where
 DZ:eu (t*t) D
 tb:t<=10000
 right:xe D.kept.length jn pn=0
 opn:nJ D 1 jn=(D1,some J,k,0)
 am_:eu (t*t) D1
 read:D1.read 0 1=(D2,[hd],0)
 hl:hd.length<=1000000
 head:T5 hd=((root,(L.length:Int)),0)
 rb:-1000000<=root/\root<=1000000
 lay:r=D.kept.length-cG jn pn
 kp:D1.kept.length=D.kept.length/\D2.kept.length=D.kept.length
 load:Aa un t (mk0 D2 J jn pn root r) c1 c2 c4 P L
 sl:qf (iV un L c4.s).sl
 rm:qf (iV un L c4.s).rm
 il:(iV un L c4.s).ix.length<=1000000
def Oh(un:List UInt8->eG×Int)(L:List (List UInt8×Int))(c4:Cs):St:={iV un L c4.s with sl:=(iV un L c4.s).sl.aX,rm:=(iV un L c4.s).rm.aX}
end Go.aW
namespace Go.Av
open Go.Proofs Go.aW
open Go.cI (je)
def VS(s:St):Ob:=⟨151,11,[.obj 0 0,.p (.int s.jn),.p (.int s.pn),.obj 14 0,.p (.int s.root),.obj 15 0,.obj 16 0,.view 12 0 s.ix.length 4 none,.p (.int s.ord),.view 13 0 s.lJ.length 3 none,.p (.bool s.sure)]⟩
def BQ(s:St):List (Nat×Ob):=[(0,aC 0 4 s.D),(1,ax s.D.kept),(2,ax s.D.now),(14,eY 0 5 s.J),(15,bZ 6 s.sl),(16,bZ 9 s.rm),(17,VS s),(6,cn s.sl.F),(7,cn s.sl.R),(8,cn s.sl.W),(9,cn s.rm.F),(10,cn s.rm.R),(11,cn s.rm.W),(12,bP s.ix),(13,b_ s.lJ)]
theorem Af(un:List UInt8->eG×Int)(t:Nat)(D:aU)(jn pn:Int)(D1 D2:aU)(J:Jr)(k:Int)(hd:cU)(root:Int)(r:Nat)(c1 c2 c4:Cs)(P:List Int)(L:je)(h:Lq un t D jn pn D1 D2 J k hd root r c1 c2 c4 P L):aI Tryz.prog 19 [.obj 0 0,.p (.agg false [.int jn,.int pn])] ⟨cC 3 D,cp 3,4⟩ (.agg true [.obj 17 0,.p (.int 0)]) ⟨BQ (Oh un L c4),eR 4,18⟩:=by
 have htt:t*t<=100000000:=Nat.le_trans (MF h.tb) (by decide);have hri:=FX D h.DZ.top jn pn;rw[h.right]at hri;have hb:5<=jn/\jn<=4096/\30<=pn/\pn<=4096/\(D.kept.length:Int)-cG jn pn>=16:=by
  have h1:=h.right;unfold xe at h1;split at h1
  ·omega
  ·split at h1
   ·omega
   ·omega
 have hop:=XI D (t*t) h.DZ 1 jn (by omega) (by omega);rw[h.opn]at hop;have hoR:RD (D1,some J,k,0)= .agg true [.obj 4 0,.p (.int k),.p (.int 0)]:=rfl;have hoT:RE (D1,some J,k,0)=⟨(4,eY 0 5 J)::cC 6 D1,(5,364,2)::cp 6,7⟩:=rfl;rw[hoR,hoT]at hop;have Ut:=xL D1 (t*t) h.am_ 0 1 (by omega);rw[h.read]at Ut;simp only at Ut;have hhd:=L5 hd (by have:=h.hl;omega);rw[h.head]at hhd;simp only at hhd;have hsz:=Eb D2;rw[h.kp.2]at hsz;have sN:=tC jn pn (by omega) (by omega);obtain⟨pk,rfl⟩:∃pk:Nat,pn=pk:=⟨pn.toNat,by omega⟩;have DD:=h.DZ.top;have hly:cG jn pk=1+jn+(pk:Int)*8:=rfl;have hr:=h.lay;have hw1:IntKind.i64.wrap ((D.kept.length:Int)-cG jn pk)=(r:Int):=by rw[af (by omega) (by omega)];omega
 have Ul:=afj 12 pk (by omega) (by omega);have hn2:=afj 16 r (by omega) (by unfold cG at hr;omega);have hld:=Wi un t (mk0 D2 J jn pk root r) c1 c2 c4 P L (by have:=h.rb;simp only[mk0,jT];omega) h.load;have hS:=h.load.ok;obtain⟨S,hSe⟩:∃S,iV un L c4.s=S:=⟨_,rfl⟩;have jJ:=h.sl;have Iq:=h.rm;have OO:=h.il;rw[hSe]at hld jJ Iq OO;have hmn:Oh un L c4={S with sl:=S.sl.aX,rm:=S.rm.aX}:=by unfold Oh;rw[hSe]
 rw[hmn];have Ea:=rS 13 22 23 24 30 S.sl.n (by constructor<;>omega) jJ.n S.sl.F S.sl.R S.sl.W jJ.F jJ.W jJ.fw;have Br:=rS 17 25 26 27 33 S.rm.n (by constructor<;>omega) Iq.n S.rm.F S.rm.R S.rm.W Iq.F Iq.W Iq.fw;have gR:=XJ S.ix OO;clear hSe hmn jJ Iq OO hS h;refine iA (rs:=[_,_]) [24] [(17,[(2,.w [1]),(6,.r 1),(7,.w [1]),(9,.w [1]),(15,.s 1 [])]),(23,[(4,.r 1),(5,.w [1]),(8,.s 1 [])])] [(1,4)] Tryz.func19 rfl (by kernel_rfl) (by kernel_rfl) (by simp[Tryz.ntmps19]) rfl ?_;refine bS mixed (fun _:Unit=>True) (fun _=>[(0,.obj 0 0),(3,.p (.ref (.agg false [.int jn,.int pk])))]) (fun _=>⟨cC 3 D,cp 3,4⟩) ?_ (fun _ _=>?_)
 ·simp;exact aA (by simp[ax])
 refine bS mixed (fun _:Unit=>True) (fun _=>[(0,.obj 0 0),(3,.p (.ref (.agg false [.int jn,.int pk]))),(6,.p (.int 0))]) (fun _=>⟨cC 3 D,cp 3,4⟩) ?_ (fun _ _=>?_)
 ·simp;refine ak [0,1,2,3] hri (by simp) (by simp) (by simp[ay]) (by simp) ?_;simp;exact aA (by simp[ax])
 refine bS mixed (fun _:Unit=>True) (fun _=>[(0,.obj 0 0),(3,.p (.ref (.agg false [.int jn,.int pk]))),(7,.obj 4 0)]) (fun _=>⟨(4,⟨151,11,[.obj 0 0,.p (.int jn),.p (.int pk),.p (.sc (.pointer none)),.p (.int 0),.p (.sc (.pointer none)),.p (.sc (.pointer none)),.p .nil,.p (.int 0),.p .nil,.p (.bool true)]⟩)::cC 3 D,cp 3,5⟩) ?_ (fun _ _=>?_)
 ·simp;exact aA (by simp[ax])
 refine oA (xM 4 7 159 4 _ (by simp[lk];rfl) rfl) ?_;refine oA (xM 4 9 198 3 _ (by simp[Tb.aQ,Tb.aT];rfl) rfl) ?_;refine ga mixed ?_;simp[ax,Tb.aQ,Tb.aT,del];refine ak [0,1,2,3] hop (by simp) (by simp) (by simp[ay,ax]) (by simp[ay]) ?_;simp[ax];refine ak [0,1,2,9] Ut (by simp) (by simp) (by simp[ay,ax]) (by simp[ay]) ?_;simp[ax];refine ai hhd (by simp) ?_;simp;refine az Ul (by simp) (by simp[ay]) (by simp[ay]) rfl ?_;simp;refine ak [0,1,2,10] hsz (by simp) (by simp) (by simp[ay]) (by simp) ?_;simp;refine ak [0] sN (by simp) (by simp) (by simp) (by simp) ?_;simp[hw1];refine az hn2 (by simp) (by simp[ay]) (by simp[ay]) rfl ?_;simp;refine ak [0,1,2,7,13,17,4,10,8,12,14,15,16,18,19,5,6] hld (by simp) (by simp) (by simp[ay,mk0,Mp.new,bF,aC,ax,bZ,bT,bP,b_,w_,Jq]) (by simp[ay]) ?_;simp[bF,aC,ax,bZ,bT,bP,b_];refine az Ea (by simp) (by simp[ay]) (by simp[ay]) rfl ?_;simp;refine az Br (by simp) (by simp[ay]) (by simp[ay]) rfl ?_;simp;refine ak [28] gR (by simp) (by simp) (by simp[ay,bP]) (by simp) ?_;simp[-aD,BQ,VS,aC,ax,bZ,bP,b_,Tryz.results19];exact⟨[(4,20),(5,21),(6,30),(7,31),(8,32),(9,33),(10,34),(11,35),(12,36),(13,29),(14,7),(15,13),(16,17),(17,4)],by simp[Mp.aX]⟩
end Go.Av
namespace Go.aW
open Go.Av
theorem Lp{N:Nat}(hN:N=262\/N=462):xe N 5 30=0:=by rcases hN with rfl|rfl<;>rfl
theorem afD(un:List UInt8->eG×Int){N t:Nat}(hN:N=262\/N=462)(ht:t<=10000){D:aU}(h:lF N D):∃D1 D2,Lq un t D 5 ((30:Nat):Int) D1 D2 (iP 1 5 lG) 0 (eC 0 0) 0 (N-246) ⟨jB N D2,[],[]⟩ ⟨jB N D2,[],[]⟩ ⟨jB N D2,[],[]⟩ [] []/\lF N D2/\Oh un [] ⟨jB N D2,[],[]⟩=jB N D2:=by
 obtain⟨D1,h1,h2⟩:=Wn hN h;obtain⟨r1,r2,r3,r4,r5⟩:=h2.gd.read (a:=0) (n:=1) (by omega);rw[h2.head]at r1;have hl:=V4 un (t:=t) hN (h2.same r2 r3 r5);refine⟨D1,(D1.read ((0:Nat):Int) ((1:Nat):Int)).1,⟨h.gd.DZ (by omega) (by rw[h.q];simp),ht,by rw[h.gd.kl];exact Lp hN,h1,h2.gd.DZ (by omega) (by rw[h2.q];simp),?_,by rw[o6];omega,agM,by omega,?_,?_,hl,?_,?_,?_⟩,h2.same r2 r3 r5,rfl⟩
 ·show D1.read ((0:Nat):Int) ((1:Nat):Int)=_;rw[<-r1]
 ·rw[h.gd.kl];unfold cG;omega
 ·rw[h2.gd.kl,r2.kl,h.gd.kl];exact⟨rfl,rfl⟩
 ·exact lI (by omega) (by omega)
 ·exact lI (by omega) (by omega)
 ·simp[iV,jB]
theorem TD{N t:Nat}(hN:N=262\/N=462)(ht:t<=10000){D:aU}{b:List UInt8}(hb:b.length<=3000)(BR:bt b+2<N-246)(h:eU N 246 b (eC 0 0) kg D\/eU N 246 b (eC 1 1) iW D):∃D1 D2 k c1 c2 c4 s',Lq (fun _=>(bC b,0)) t D 5 ((30:Nat):Int) D1 D2 (iP 1 5 sO) k (eC 1 1) 1 (N-246) c1 c2 c4 [1] [(fD,(bt b:Int)*256+2)]/\s'=Oh (fun _=>(bC b,0)) [(fD,(bt b:Int)*256+2)] c4/\s'.ix=[nT b]/\s'.jn=5/\s'.pn=30/\eU N 246 b (eC 1 1) iW s'.D/\ic t s':=by
 have hop:∃D1 k,nJ D 1 5=(D1,some (iP 1 5 sO),k,0)/\eU N 246 b (eC 1 1) iW D1:=by
  rcases h with h|h
  ·obtain⟨D1,h1,h2⟩:=open_1 hN BR h;exact⟨D1,1,h1,h2⟩
  ·obtain⟨D1,h1,h2⟩:=Wo hN h;exact⟨D1,0,h1,h2⟩
 obtain⟨D1,k,h1,h2⟩:=hop;have hgd:Gd N D/\D.q=[]:=by rcases h with h|h<;>exact⟨h.gd,h.q⟩
 obtain⟨r1,r2,r3,r4,r5⟩:=h2.gd.read (a:=0) (n:=1) (by omega);rw[h2.head]at r1;have hD2:=h2.same r2 r3 r5;obtain⟨c1,c2,c4,s',l1,l2,l3,l4,l5,l6,l7,l8,l9⟩:=V5 (t:=t) hN hb BR (all:=iW) rfl hD2;have hks:=l7.sl;have hkr:=l7.rm;rw[l2]at hks hkr;refine⟨D1,(D1.read ((0:Nat):Int) ((1:Nat):Int)).1,k,c1,c2,c4,_,⟨hgd.1.DZ (by omega) (by rw[hgd.2];simp),ht,by rw[hgd.1.kl];exact Lp hN,h1,h2.gd.DZ (by omega) (by rw[h2.q];simp),?_,by rw[o6];omega,agN,by omega,?_,?_,l1,hks,hkr,?_⟩,rfl,?_,?_,?_,?_,?_⟩
 ·show D1.read ((0:Nat):Int) ((1:Nat):Int)=_;rw[<-r1]
 ·rw[hgd.1.kl];unfold cG;omega
 ·rw[h2.gd.kl,r2.kl,hgd.1.kl];exact⟨rfl,rfl⟩
 ·rw[<-l2,l3];simp
 ·unfold Oh;rw[<-l2];exact l3
 ·unfold Oh;rw[<-l2];exact l4
 ·unfold Oh;rw[<-l2];exact l5
 ·unfold Oh;rw[<-l2];exact l6
 ·unfold Oh;rw[<-l2];exact{l7 with sl:=l7.sl.aX,rm:=l7.rm.aX}
theorem eU.iH{N r:Nat}{b:List UInt8}{hd:cU}{all:List cU}{D:aU}(h:eU N r b hd all D):eU N r b hd all D.iH:=by
 obtain⟨h1,h2,h3⟩:=h.gd.iH h.q;exact h.same h1 h2 (h3.trans h.q.symm)
end Go.aW
namespace Go.Av
open Go.Proofs Go.aW
theorem z8(x m:Int)(hm:0<m):(x.tmod m+m).tmod m=x%m:=by
 have h1:=Int.emod_nonneg x (by omega:m≠0);have h2:=Int.emod_lt_of_pos x hm;rcases Int.le_total 0 x with h|h
 ·rw[Int.tmod_eq_emod_of_nonneg h,Int.tmod_eq_emod_of_nonneg (by omega),Int.add_emod_right,Int.emod_emod_of_dvd _ (Int.dvd_refl m)]
 ·obtain⟨y,rfl⟩:∃y,x=-y:=⟨-x,by omega⟩;have hy:0<=y:=by omega
  have h3:=Int.emod_nonneg y (by omega:m≠0);have h4:=Int.emod_lt_of_pos y hm;rw[Int.neg_tmod,Int.tmod_eq_emod_of_nonneg hy,Int.tmod_eq_emod_of_nonneg (by omega)];rw[Int.add_emod_right];have e:-y=-(y%m)+m*(-(y/m)):=by
   have:=Int.emod_add_mul_ediv y m;rw[Int.mul_neg];omega
  conv=>rhs;rw[e]
  rw[Int.add_mul_emod_self_left]
theorem z_(x m:Int)(hm:0<m):-m<x.tmod m/\x.tmod m<m:=by
 rcases Int.le_total 0 x with h|h
 ·rw[Int.tmod_eq_emod_of_nonneg h];have h1:=Int.emod_nonneg x (by omega:m≠0);have h2:=Int.emod_lt_of_pos x hm;omega
 ·obtain⟨y,rfl⟩:∃y,x=-y:=⟨-x,by omega⟩;have hy:0<=y:=by omega
  have h3:=Int.emod_nonneg y (by omega:m≠0);have h4:=Int.emod_lt_of_pos y hm;rw[Int.neg_tmod,Int.tmod_eq_emod_of_nonneg hy];omega
theorem amx(j p r:Int):aB Tryz.prog 53 [.agg false [.int j,.int p,.int r]] (.tp [.agg false [.int (5+j%40),.int (30+p%40)],.int (1+(5+j%40)+8*(30+p%40)+16+r%300)]):=by
 have bj:=z_ j 40 (by omega);have bp:=z_ p 40 (by omega);have br:=z_ r 300 (by omega);have mj:=z8 j 40 (by omega);have mp:=z8 p 40 (by omega);have mr:=z8 r 300 (by omega);have a1:IntKind.i64.wrap (j.tmod 40)=j.tmod 40:=af (by omega) (by omega);have a2:IntKind.i64.wrap (j.tmod 40+40)=j.tmod 40+40:=af (by omega) (by omega);have a3:IntKind.i64.wrap (j%40)=j%40:=af (by omega) (by omega);have a4:IntKind.i64.wrap (5+j%40)=5+j%40:=af (by omega) (by omega);have b1:IntKind.i64.wrap (p.tmod 40)=p.tmod 40:=af (by omega) (by omega);have b2:IntKind.i64.wrap (p.tmod 40+40)=p.tmod 40+40:=af (by omega) (by omega);have b3:IntKind.i64.wrap (p%40)=p%40:=af (by omega) (by omega);have b4:IntKind.i64.wrap (30+p%40)=30+p%40:=af (by omega) (by omega);have c1:IntKind.i64.wrap (r.tmod 300)=r.tmod 300:=af (by omega) (by omega);have c2:IntKind.i64.wrap (r.tmod 300+300)=r.tmod 300+300:=af (by omega) (by omega);have c3:IntKind.i64.wrap (r%300)=r%300:=af (by omega) (by omega);have d1:IntKind.i64.wrap (1+(5+j%40))=1+(5+j%40):=af (by omega) (by omega);have d2:IntKind.i64.wrap (8*(30+p%40))=8*(30+p%40):=af (by omega) (by omega);have d3:IntKind.i64.wrap (1+(5+j%40)+8*(30+p%40))=1+(5+j%40)+8*(30+p%40):=af (by omega) (by omega);have d4:IntKind.i64.wrap (1+(5+j%40)+8*(30+p%40)+16)=1+(5+j%40)+8*(30+p%40)+16:=af (by omega) (by omega);have d5:IntKind.i64.wrap (1+(5+j%40)+8*(30+p%40)+16+r%300)=1+(5+j%40)+8*(30+p%40)+16+r%300:=af (by omega) (by omega);refine QpQ (ys:=[_,_]) [] [(2,[(0,.r 1),(2,.r 1),(5,.r 1),(15,.s 2 [1])])] [(1,1),(2,0)] Tryz.func53 rfl (by simp[Tryz.ntmps53]) ?_;simp[a2,mj,a4,b2,mp,b4,c2,mr,d1,d2,d3,d4,d5,Tryz.results53]
 done
def z49:List PC:=[.str [],.nil,.str [],.str [],.str [],.int 0,.str [],.int 0,.nil,.int 0,.int 0,.int 0,.int 0,mz 0,.nil]
def Ku:PC:= .sc (.pointer none)
def zT:List PC:=[Ku,Ku,Ku]++z49++z49++z49++[.nil,.nil,.nil,.int 0]
def z53:List PC:=Ku::Ku:: .int 0:: .int 0:: .int 0:: .nil:: .nil:: .int 0:: .int 0::zT
@[simp]theorem amE:zT.length=52:=rfl
def Hf(d s:Nat)(N:Nat)(was:AV):Ob:=⟨53,61,.obj d 0:: .obj s 0:: .p (.int 5):: .p (.int 30):: .p (.int N):: .p .nil::was:: .p (.int 0):: .p (.int 0)::zT.map .p⟩
@[simp]theorem afB:bJ Tryz.prog 53=some z53:=by kernel_rfl
theorem BP{N:Nat}(hN:N=262\/N=462)(rm:Int)(sN:1+(5+(0:Int)%40)+8*(30+(0:Int)%40)+16+rm%300=(N:Int)):∃D,lF N D/\aI Tryz.prog 11 [.p (.agg false [.int 0,.int 0,.int rm])] ⟨[],[],0⟩ (.obj 17 0) ⟨(17,Hf 0 6 N (.full [.agg false [.nil]]))::bF 0 7 (jB N D),eR 7,18⟩:=by
 have hof:=amx 0 0 rm;rw[sN]at hof;have Z':=afm N (by omega) (by omega);obtain⟨D,hf,hD⟩:=afC hN;have hfo:=Kv (aU.made N) 0 (J9 N (by omega) (by omega)) 5 30 (by omega);rw[hf]at hfo;obtain⟨D1,D2,hm,hD2,hmt⟩:=afD (t:=1000) (fun _=>(ql,0)) hN (by omega) hD;have hmo:=Af _ _ _ _ _ _ _ _ _ _ _ _ _ _ _ _ _ hm;rw[hmt]at hmo;refine⟨D2,hD2,?_⟩;refine iA (rs:=[_]) [7] [(4,[(3,.r 1),(9,.r 1),(13,.r 1),(14,.w [1])]),(6,[(3,.r 1),(7,.r 1),(8,.w [1])])] [(1,0)] Tryz.func11 rfl (by kernel_rfl) (by kernel_rfl) (by simp[Tryz.ntmps11]) rfl ?_;refine bS mixed (fun _:Unit=>True) (fun _=>[(1,.p (.ref (.agg false [.int 0,.int 0,.int rm])))]) (fun _=>⟨[],[],0⟩) ?_ (fun _ _=>?_)
 ·simp;exact aA (by simp)
 refine ga mixed ?_;simp[z53];refine ai hof (by simp) ?_;simp;refine ak [] Z' (by simp) (by simp) (by simp) (by simp) ?_;simp[ax];refine ak [1,2,3,4] hfo (by simp) (by simp) (by simp[ay,ax]) (by simp[ay]) ?_;simp[ax];refine ak [1,2,3,5] hmo (by simp) (by simp) (by simp[ay,ax]) (by simp[ay]) ?_;simp[-aD,BQ,VS,Hf,bF,aC,ax,bZ,bT,bP,b_,Tryz.results11]
 trace_state
 exact⟨[(0,1),(1,2),(2,3),(3,16),(4,17),(5,18),(6,19),(7,6),(8,7),(9,8),(10,9),(11,10),(12,11),(13,12),(14,13),(15,14),(16,15),(17,0)],by simp⟩
theorem LP{N t:Nat}{b:List UInt8}{w w1:Sm}{s2:St}(ht:t<=10000)(h:T9 N t b w w1 s2):aI Tryz.prog 15 [.obj 7 0] ⟨gU 0 8 w,eR 8,19⟩ (.agg true [.p (.bool true),.p (.int 0)]) ⟨bF 0 19 {s2 with ord:=s2.ord+1},eR 19,29⟩:=by
 have Dy:=zk t (by omega) w w.rest h.rest h.hC;rw[h.sec]at Dy;have hp:=h.put;have DH:=HM t (by omega) w1.s h.s (bC b) hp.eok h.pk h.pl h.fit (by rw[h.rx];exact hp.xb.1) h.run h.wr;rw[h.rx]at DH;have vv:=afk t (t+8) (t+100) w1.s (w1.s.AE (bC b)) (bC b) hp.eok ((bt b:Int),2) hp.xb hp.F hp.il hp.sp DH hp.ix hp.ok1 (by omega) (nT b) hp.kk hp.kl hp.at' hp.R hp.cok (by omega) hp.d hp.tx hp.ok3 (by omega);rw[h.res,<-h.ent]at vv;exact Wa w w1 s2 0 h.ended (by rw[h.ord];omega) (by rw[h.ag1];omega) Dy vv
theorem AJ{N t r:Nat}{s0:St}{b:List UInt8}{w:Sm}(h:wF N t r s0 cw b w)(hs:SmS N t r s0)(ht:t<=30000)(x:List UInt8)(hx:(b.length+x.length)/64<s0.rm.n)(hx2:b.length+x.length<=1000000):aI Tryz.prog 14 [.obj 7 0,.p (.sl [cy x])] ⟨gU 0 8 w,eR 8,19⟩ (.p (.int 0)) ⟨gU 0 19 (w.write x).1,eR 19,30⟩:=by
 obtain⟨h1,h2,h3⟩:=h.write hs x hx hx2;have hf:[x].flatten=x:=by simp
 have he:=h.he;have hw:=QS t ht w [x] (by simp) h.ended (by rw[hf,he];simp only;omega) (by rw[he];exact rK (by omega) b) (by rw[h.rest];simp;omega) (by rw[hf];exact h3) (by rw[hf];exact h1);rw[hf]at hw;exact hw
theorem NH:cw.Ok:=by
 refine⟨by simp[cw],by simp[cw],by simp[cw],by simp[cw],by simp[cw],by simp[cw],by simp[cw,wO],by simp[cw],by simp[cw],by simp[cw],by simp[cw],by simp[cw]⟩
theorem IZ:YS cw=true:=by kernel_rfl
theorem U7(s:St):aI Tryz.prog 12 [.obj 6 0,.p (Ms cw)] ⟨bF 0 7 s,eR 7,17⟩ (.agg true [.obj 17 0,.p (.int 0)]) ⟨(17,jQ 6 18 (Lf s))::(18,jD [])::bF 0 7 s,eR 7,19⟩:=Sy s cw NH IZ
theorem I0{tb:Tb}{id n:Nat}{m:Option Nat}{ob:Ob}{b:List UInt8}(hl:lk id tb.bx=some ob)(hsz:ob.sz=1)(hx:ob.xs=(ah b).map AV.p)(hn:n=b.length):wZ tb ⟨del id tb.bx,tb.rw,tb.nx+1⟩ [.view id 0 n 1 m] [cy b]:=by
 subst hn;refine⟨_,⟨_,hl,rfl,hsz,by omega,by rw[hx];simp[ah],?_,by simp[ah],fun y h=>cg _ y h,fun y h=>fR _ y h,rfl⟩,rfl⟩;rw[mU,fQ,hx];exact List.take_of_length_le (by simp[ah])
theorem SS:aB Tryz.prog 10 [] (.bool true):=by
 have hN:(262:Nat)=262\/(262:Nat)=462:= .inl rfl;obtain⟨D,hD,hop⟩:=BP hN 0 (by decide);have hso:=Mr;have PR:=U7 (jB 262 D);have h0:=Lh (t:=1000) hN (by omega) hD;have hs:=Li (t:=1000) hN (by omega) hD;obtain⟨b,hb⟩:∃b:List UInt8,b=[98,111,100,121]:=⟨_,rfl⟩;have mg:b.length=4:=by rw[hb];rfl
 have hbn:bt b=1:=by unfold bt;rw[mg]
 have sN:(jB 262 D).rm.n=16:=rfl;have lg:=AJ h0 hs (by omega) b (by rw[sN,mg];decide) (by rw[mg];decide);obtain⟨_,h1,_⟩:=h0.write hs b (by rw[sN,mg];decide) (by rw[mg];decide);rw[List.nil_append]at h1;generalize((Lf (jB 262 D)).write b).1=w at lg h1;obtain⟨w1,s2,hdn⟩:=FY (t:=1000) hN (by omega) hD (b:=b) (by omega) (by rw[hbn];decide) h1;have SU:=LP (by omega) hdn;have MD:=hdn.ag0;obtain⟨s4,rH⟩:∃s4:St,s4={s2 with ord:=s2.ord+1}:=⟨_,rfl⟩;rw[<-rH]at SU;have hD4:s2.D=s4.D:=by rw[rH]
 rw[hD4]at MD;have Jn:=FF s4.D 0 (MD.gd.DZ (by omega) (by rw[MD.q];simp)) (by omega);obtain⟨D1,D2,k,c1,c2,c4,s3,m1,m2,m3,m4,m5,m6,m7⟩:=TD (t:=1000) hN (by omega) (b:=b) (by omega) (by rw[hbn];decide) (.inl MD.iH);have hmo:=Af _ _ _ _ _ _ _ _ _ _ _ _ _ _ _ _ _ m1;rw[<-m2]at hmo;have hke:=Wm s3 (by rw[m3];simp);have sQ:(s3.ix.map fun k=>PC.str k.key).length=1:=by rw[m3];rfl
 rw[hb]at lg;refine bN (xs:=[]) (r:= .p (.bool true)) (aO:=⟨[],[],57⟩) ?_ ⟨_,rfl,.inl rfl⟩;refine QgQ (rs:=[_]) [29] [(4,[(3,.r 1),(4,.w [1]),(5,.w [1])]),(9,[(3,.r 1),(7,.r 1),(8,.w [1])])] [(1,17)] Tryz.func10 rfl (by simp[Tryz.ntmps10]) ?_;simp;refine ak [] hop (by simp) (by simp) (by simp) (by simp) ?_;clear hD h0 hs hdn MD m1 h1 sN hop;generalize jB 262 D=s0 at PR lg;have e1:s3.ix.length=1:=by rw[m3];rfl
 clear m2 m3 m4 m5 m6 m7 rH hD4;have sb:cw.body=[]:=rfl;simp[Hf,bF,aC,ax,bZ,bT,bP,b_];refine ai hso (by simp) ?_;simp;refine ak [0,1,2,3,4,5,6,7,8,9,10,11,12,13,14,15,16] PR (by simp) (by simp) (by simp[ay,bF,aC,ax,bZ,bT,bP,b_]) (by simp[ay]) ?_;simp[Lf,jQ,jD,bF,aC,ax,bZ,bT,bP,b_];refine Ar [cy [98,111,100,121]] _ (by simp[bq]) (I0 (by simp[lk];rfl) rfl rfl rfl) (by simp) (by simp) ?_;simp[del];refine ak [0,1,2,3,4,5,6,18,7,8,9,10,11,12,13,14,15,16,19] lg (by simp) (by simp) (by simp[sb,ay,Lf,gU,jQ,jD,bF,aC,ax,bZ,bT,bP,b_]) (by simp[ay]) ?_;simp[gU,jQ,jD,bF,aC,ax,bZ,bT,bP,b_];refine ak [0,1,2,3,4,5,6,18,22,23,24,25,26,27,28,29,30,31,32] SU (by simp) (by simp) (by simp[ay,gU,jQ,jD,bF,aC,ax,bZ,bT,bP,b_]) (by simp[ay]) ?_;simp[gU,jQ,jD,bF,aC,ax,bZ,bT,bP,b_];refine ak [0,1,2,33] Jn (by simp) (by simp) (by simp[ay,ax]) (by simp[ay]) ?_;simp[ax];refine ak [0,1,2,43] hmo (by simp) (by simp) (by simp[ay,ax]) (by simp[ay]) ?_;simp[BQ,VS,aC,ax,bZ,bP,b_];refine ak [0,1,2,54,55,56,57,44,45,46,47,48,49,50,51,52,53] hke (by simp) (by simp) (by simp[ay,bT,bP]) (by simp) ?_;simp[-aD,e1,Tryz.results10];exact⟨[],by simp⟩
end Go.Av
namespace Go.aW
open Go.Av
theorem ic.dsk{t N r:Nat}{s:St}(h:ic t s)(hN:1<=N/\N<=65536){b:List UInt8}{hd:cU}{all:List cU}(h0:eU N r b hd all s.D){D:aU}(hD:eU N r b hd all D):ic t (s.dev D):=h.dev (Nat.le_refl _) (hD.gd.DZ hN (by rw[hD.q];simp)) (by rw[hD.gd.kl,h0.gd.kl])
end Go.aW
namespace Go.Av
open Go.Proofs Go.aW
theorem amF{b:List UInt8}(hb:b.length<=3000):DO (fun _=>(bC b,0)) (bC b).pack:=y9 (bC b) (FD b (by omega)) (by have:=o5 b (by omega);omega) (vw b (by omega)) (qm b (by omega)) rfl rfl
theorem afE{t N:Nat}(hN:N=262\/N=462){s:St}{b:List UInt8}{hd:cU}{all:List cU}(h:eU N 246 b hd all s.D)(hS:ic t s)(hb:b.length<=3000)(BR:bt b+2<N-246)(hx:s.ix=[nT b])(hj:s.jn=5)(hp:s.pn=30):∃D,eU N 246 b hd all D/\ic t (s.dev D)/\aI Tryz.prog 16 [.obj 6 0,.p (.str fD)] ⟨bF 0 7 s,eR 7,17⟩ (.agg true [.p (dY (bC b)),.p (.bool true),.p (.int 0)]) ⟨bF 0 17 (s.dev D),eR 17,27⟩:=by
 have hl:cG s.jn s.pn=((246:Nat):Int):=by rw[hj,hp];rfl
 obtain⟨D,h1,h2⟩:=afF h (by omega) hl (by omega) hx;obtain⟨D3,_,_,h3⟩:=D5 h (by omega) hl (by omega);obtain⟨a1,a2⟩:=VT b;have hg:=afG (fun _=>(bC b,0)) t s hS fD (fun _=>by
  rw[hx,a1];simp only[List.getD_cons_zero];rw[FE];unfold St.J8;rw[h3];exact amF hb)
 rw[h1]at hg;exact⟨D,h2,hS.dsk (by omega) h h2,hg⟩
theorem VU{t N:Nat}(hN:N=262\/N=462){s:St}{b:List UInt8}{hd:cU}{all:List cU}(h:eU N 246 b hd all s.D)(hS:ic t s)(hb:b.length<=3000)(BR:bt b+2<N-246)(hx:s.ix=[nT b])(hj:s.jn=5)(hp:s.pn=30):∃D,eU N 246 b hd all D/\ic t (s.dev D)/\aI Tryz.prog 17 [.obj 6 0,.p (dY (bC b))] ⟨bF 0 7 s,eR 7,17⟩ (.agg true [.p (cy b),.p (.int 0)]) ⟨bF 0 17 (s.dev D),eR 17,27⟩:=by
 have hl:cG s.jn s.pn=((246:Nat):Int):=by rw[hj,hp];rfl
 obtain⟨D,h1,h2⟩:=VV h (by omega) hl (by omega) hx;have Od:=BS (bt b) (by unfold bt;omega);have hn:bt b<=47:=by unfold bt;omega
 have hg:=VW t s hS (bC b) (by simp[bC,cw]) ⟨by show(mo (bt b)).length<=8;omega,fun e he=>by have:=Od.2 e he;omega⟩;rw[h1]at hg;exact⟨D,h2,hS.dsk (by omega) h h2,hg⟩
theorem Pd{t N:Nat}(hN:N=262\/N=462)(ht:t<=10000){D:aU}{b:List UInt8}(hb:b.length<=3000)(BR:bt b+2<N-246)(h:eU N 246 b (eC 0 0) kg D\/eU N 246 b (eC 1 1) iW D):aI Tryz.prog 18 [.obj 0 0,.p (.agg false [.nil,.int (-1),.int 0])] ⟨cC 3 D,cp 3,4⟩ (.agg true []) ⟨cC 4 D.iH,cp 4,5⟩/\∃s,s.ix=[nT b]/\s.jn=5/\s.pn=30/\eU N 246 b (eC 1 1) iW s.D/\ic t s/\aI Tryz.prog 19 [.obj 0 0,.p (.agg false [.int 5,.int 30])] ⟨cC 3 D.iH,cp 3,4⟩ (.agg true [.obj 17 0,.p (.int 0)]) ⟨BQ s,eR 4,18⟩:=by
 have hgd:Gd N D/\D.q=[]:=by rcases h with h|h<;>exact⟨h.gd,h.q⟩
 have hc:eU N 246 b (eC 0 0) kg D.iH\/eU N 246 b (eC 1 1) iW D.iH:=by
  rcases h with h|h
  ·exact .inl h.iH
  ·exact .inr h.iH
 refine⟨FF D 0 (hgd.1.DZ (by omega) (by rw[hgd.2];simp)) (by omega),?_⟩;obtain⟨D1,D2,k,c1,c2,c4,s3,m1,m2,m3,m4,m5,m6,m7⟩:=TD (t:=t) hN ht hb BR hc;have hmo:=Af _ _ _ _ _ _ _ _ _ _ _ _ _ _ _ _ _ m1;rw[<-m2]at hmo;exact⟨s3,m3,m4,m5,m6,m7,hmo⟩
end Go.Av
