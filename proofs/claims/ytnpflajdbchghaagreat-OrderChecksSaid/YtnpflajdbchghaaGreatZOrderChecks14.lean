/- Parts of the proof of OrderChecks, one behind the other. Conditions: none. -/
import Derived.Test.YtnpflajdbchghaaGreatZOrderChecks13
set_option linter.unusedSimpArgs false
set_option linter.unusedVariables false
set_option maxHeartbeats 8000000
set_option maxRecDepth 10000
noncomputable section
namespace Go.Proofs.YtnpflajdbchghaaGreat
open Tryz(prog underlying70)
open Go Ev Go.RowKit
section
variable{w w0 w1 w2 w':World}{T T1 T2 T':dH}{h:Hm}{c:cx}{m m':bd}{o o' b sb lb q kb wb q4 q5:Nat}{es es':List TypeId}{k:jE}{id:Nat}{hv:Value}{p1 p2 p3 p4 p5 p6 p7:Option Addr}
theorem gPin_p(k:jE)(s p:Int)(x:McV):(jV {k with steps:=s,mc:=x,point:=p}).1=(jV {k with steps:=s}).1:=by
 by_cases h:k.depth=15<;>simp[jV,h]
theorem gUnpin_p(k:jE)(s p:Int)(x:McV):(dJ {k with steps:=s,mc:=x,point:=p}).1=(dJ {k with steps:=s}).1:=by
 by_cases h:k.depth=0
 ·simp[dJ,h]
 ·simp[dJ,h]
theorem s_enter(N:gG c)(R:Rel w T)(H:dG T h c m)(f:o≠0)(M:ee c m)(hT:T kb=some (tU o h.wb id b k hv p1 p2 p3 p4 p5 p6 p7))(U:fN w T o b sb lb h c k.su)(L:SlK w T hv k.holds)(hs:0<=k.steps/\k.steps<=1000000000)(hb:k.busy=true)(W:k.o.1=3){x:EnV}(Y:k.mc= .enter x)(X:McR w T o b h id p1 p2 p3 p4 p5 p6 p7 (.enter x))(C:id<cW c)(D:0<=k.depth/\k.depth<=15)(Z:x.done=false):
  aa prog 102 [ptr kb] w (uc T w o kb h c (aw c id m k).1 id (aw c id m k).2):=by
 obtain⟨e,rfl,X⟩:=X;apply F102_ok;have F:=ky R hT;have K:=F.busy;rw[hb]at K;have ew:IntKind.i64.wrap (k.steps+1)=k.steps+1:=ap dB dB;rw[F102];simp only[ptr,ae,ac,aV,jN,az,ag,K,F.steps,aj,ew,zS];refine aA (A':=mJ h.wb id b {k with steps:=k.steps+1} hv p1 p2 (some ⟨e,0,none⟩) p4 p5 p6 p7) R hT aE ⟨rfl,rfl⟩ dE (by rw[aM];omega) λw1 T1 l g _ _=>?_;have XX:McR w1 T1 o b h id p1 p2 (some ⟨e,0,none⟩) p4 p5 p6 p7 (.enter x):=qP ⟨e,rfl,X⟩ hT l;obtain⟨_,eq,X1⟩:=XX;cases eq;have U1:=jW U hT l;have L1:=L.gx l;have E:=H.bP l hT f;have O:=l.rel;have P:=ky O g;have f0:an (hp w1 kb) (0+6+0)=some (bN 3):=by have t:an (hp w1 kb) (0+6+0)=some (bN k.o.1):=P.o0;rw[W]at t;exact t
 simp only[ac,fV,fa_172_13,am,ag,ld_166,f0,P.c3,Int.reduceBEq,zS];have fin:∀(r:bd×jE),aw c id m k=r->∀n i,Gx (fK h T o) w T n i->dG i h c r.1->tW n i o kb h c id r.2->P102_0 n (uc T w o kb h c (aw c id m k).1 id (aw c id m k).2):=by
  rintro r rfl n i h1 h2 h3;apply L102_0_ok;exact⟨rfl,i,h1,h2,h3⟩
 refine(c_EnStep N O E f M X1 C Z).mono ?_;rintro _ w2 ⟨_,T2,j,v,y⟩;have a:=j.off kb _ g (SM.un E g f (.inr dC));have Q:=U1.sm E j f (.inr dC);have S:=L1.gx j;have p:Gx (fK h T o) w T w2 T2:=fK.then (fO hT l) (wkSM j)
 have z:aw c id m k=(if x.at'=0 then(m,{k with steps:=k.steps+1,mc:= .enter ⟨1,fE (cf m 2),false⟩})else(m.set (fH c id) (pinW x.epoch),bO (jV {k with steps:=k.steps+1,point:=2}).2 (bn (jV {k with steps:=k.steps+1}).1))):=by
  rw[aw,bV (by rw[hb];decide)];simp only[Y]
 have V:=ky j.rel a;have G:T2 e=some (enN o h.eb id (mg c id m x).2):=y;have I:hp w2 e=some (.cells (enA h.eb id (mg c id m x).2) 220):=j.rel.kK G;have A:an (hp w2 e) (0+4)=some (.bool (mg c id m x).2.done):=by rw[I];rfl
 by_cases B:x.at'=0
 ·have es:mg c id m x=(m,⟨1,fE (cf m 2),false⟩):=by rw[mg,bU B]
  rw[bU B]at z;rw[es]at A v y;simp only[ae,ac,rA,az,V.c3,A,zS];exact fin _ z w2 T2 p v ⟨b,sb,lb,hv,p1,p2,_,p4,p5,p6,p7,a,Q,S,⟨e,rfl,y⟩⟩
 ·have es:mg c id m x=(m.set (fH c id) (pinW x.epoch),{x with done:=true}):=by rw[mg,bV B]
  rw[bV B]at z;rw[es]at A v y;simp only[ae,ac,eM,rA,az,V.c3,A,zS];refine aA (A':=mJ h.wb id b {k with steps:=k.steps+1,point:=2} hv p1 p2 (some ⟨e,0,none⟩) p4 p5 p6 p7) j.rel a aE ⟨rfl,rfl⟩ dE (by rw[aM];omega) λw3 T3 q d _ _=>?_;have U3:=jW Q a q;have L3:=S.gx q;have H3:=v.bP q a f;try simp only[ac,jM]
  refine(c_gPin q.rel d D).mono ?_;rintro _ w4 ⟨u,rfl,T4,g4,J⟩;have s:(jV {k with steps:=k.steps+1,point:=2}).2.su=k.su/\(jV {k with steps:=k.steps+1,point:=2}).2.holds=k.holds:=by unfold jV;split<;>exact⟨rfl,rfl⟩
  have U4:=jW U3 d g4;have ep:(jV {k with steps:=k.steps+1,point:=2}).1=(jV {k with steps:=k.steps+1}).1:=gPin_p k _ _ k.mc;rw[ep];try simp only[kG,kH,ac,ku]
  refine mS (k:=(jV {k with steps:=k.steps+1,point:=2}).2) g4.rel (H3.bP g4 d f) f (by rw[s.1];exact U4) (by rw[s.2];exact L3.gx g4) J _ λn i g5 H5 K5=>?_;exact fin _ z n i (fK.then (fK.then (fK.then p (fO a q)) (fO d g4)) g5) H5 K5
theorem s_leave(N:gG c)(R:Rel w T)(H:dG T h c m)(e:o≠0)(M:ee c m)(hT:T kb=some (tU o h.wb id b k hv p1 p2 p3 p4 p5 p6 p7))(U:fN w T o b sb lb h c k.su)(L:SlK w T hv k.holds)(hs:0<=k.steps/\k.steps<=1000000000)(hb:k.busy=true)(G:k.o.1=4){x:Bool}(I:k.mc= .leave x)(X:McR w T o b h id p1 p2 p3 p4 p5 p6 p7 (.leave x))(s:id<cW c)(v:0<=k.depth/\k.depth<=15)(J:x=false):
  aa prog 102 [ptr kb] w (uc T w o kb h c (aw c id m k).1 id (aw c id m k).2):=by
 obtain⟨q,rfl,X⟩:=X;apply F102_ok;have F:=ky R hT;have C:=F.busy;rw[hb]at C;have K:IntKind.i64.wrap (k.steps+1)=k.steps+1:=ap dB dB;rw[F102];simp only[ptr,ae,ac,aV,jN,az,ag,C,F.steps,aj,K,zS];refine aA (A':=mJ h.wb id b {k with steps:=k.steps+1} hv p1 p2 p3 (some ⟨q,0,none⟩) p5 p6 p7) R hT aE ⟨rfl,rfl⟩ dE (by rw[aM];omega) λw1 T1 i f _ _=>?_;have O:McR w1 T1 o b h id p1 p2 p3 (some ⟨q,0,none⟩) p5 p6 p7 (.leave x):=qP ⟨q,rfl,X⟩ hT i;obtain⟨_,P,Q⟩:=O;cases P;have S:=jW U hT i;have V:=L.gx i;have y:=H.bP i hT e;have D:=i.rel;have E:=ky D f;have f0:an (hp w1 kb) (0+6+0)=some (bN 4):=by have t:an (hp w1 kb) (0+6+0)=some (bN k.o.1):=E.o0;rw[G]at t;exact t
 simp only[ac,fV,fa_172_14,am,ag,ld_167,f0,E.c4,Int.reduceBEq,zS];have fin:∀(r:bd×jE),aw c id m k=r->∀j g,Gx (fK h T o) w T j g->dG g h c r.1->tW j g o kb h c id r.2->P102_0 j (uc T w o kb h c (aw c id m k).1 id (aw c id m k).2):=by
  rintro r rfl j g l W Y;apply L102_0_ok;exact⟨rfl,g,l,W,Y⟩
 subst J;refine(c_LvStep N D y e M Q s).mono ?_;rintro _ w2 ⟨_,T2,n,Z,X2⟩;have a:=n.off kb _ f (SM.un y f e (.inr dC));have U2:=S.sm y n e (.inr dC);have L2:=V.gx n;have z:Gx (fK h T o) w T w2 T2:=fK.then (fO hT i) (wkSM n)
 have e0:aw c id m k=(m.set (fH c id) 0,bO (dJ {k with steps:=k.steps+1,point:=1}).2 (bn (dJ {k with steps:=k.steps+1}).1)):=by
  rw[aw,bV (by rw[hb];decide)];simp only[I]
 try simp only[ac,eM]
 refine aA (A':=mJ h.wb id b {k with steps:=k.steps+1,point:=1} hv p1 p2 p3 (some ⟨q,0,none⟩) p5 p6 p7) n.rel a aE ⟨rfl,rfl⟩ dE (by rw[aM];omega) λw3 T3 p d _ _=>?_;have U3:=jW U2 a p;have L3:=L2.gx p;have H3:=Z.bP p a e;try simp only[ac,jM]
 refine(c_gUnpin p.rel d v).mono ?_;rintro _ w4 ⟨u,rfl,T4,g4,A⟩;have B:(dJ {k with steps:=k.steps+1,point:=1}).2.su=k.su:=by unfold dJ;(repeat' split)<;>rfl
 have L4:SlK w4 T4 (if k.depth=1 then .slice none 0 0 else hv) (dJ {k with steps:=k.steps+1,point:=1}).2.holds:=by
  by_cases l:k.depth=1
  ·rw[bU l,show(dJ {k with steps:=k.steps+1,point:=1}).2.holds= []by simp[dJ,l]];exact⟨none,0,rfl,cy _,Lo.nil _ _ _⟩
  ·rw[bV l,show(dJ {k with steps:=k.steps+1,point:=1}).2.holds=k.holds by
    by_cases h0:k.depth=0
    ·simp[dJ,h0]
    ·simp[dJ,h0,show¬k.depth-1=0 by omega]]
   exact L3.gx g4
 have U4:=jW U3 d g4;have ep:(dJ {k with steps:=k.steps+1,point:=1}).1=(dJ {k with steps:=k.steps+1}).1:=gUnpin_p k _ _ k.mc;rw[ep];try simp only[kG,kH,ac,ku]
 refine mS (k:=(dJ {k with steps:=k.steps+1,point:=1}).2) g4.rel (H3.bP g4 d e) e (by rw[B];exact U4) L4 A _ λj g g5 H5 K5=>?_;exact fin _ e0 j g (fK.then (fK.then (fK.then z (fO a p)) (fO d g4)) g5) H5 K5
theorem s_stats(N:gG c)(R:Rel w T)(H:dG T h c m)(g:o≠0)(M:ee c m)(hT:T kb=some (tU o h.wb id b k hv p1 p2 p3 p4 p5 p6 p7))(U:fN w T o b sb lb h c k.su)(L:SlK w T hv k.holds)(hs:0<=k.steps/\k.steps<=1000000000)(hb:k.busy=true)(E:k.o.1=12){x:LkV}(K:k.mc= .look x)(X:McR w T o b h id p1 p2 p3 p4 p5 p6 p7 (.look x))(O:LkOk c x)(P:k.holds.length<=100):
  aa prog 102 [ptr kb] w (uc T w o kb h c (aw c id m k).1 id (aw c id m k).2):=by
 obtain⟨d,rfl,X⟩:=X;apply F102_ok;have F:=ky R hT;have G:=F.busy;rw[hb]at G;have Q:IntKind.i64.wrap (k.steps+1)=k.steps+1:=ap dB dB;rw[F102];simp only[ptr,ae,ac,aV,jN,az,ag,G,F.steps,aj,Q,zS];refine aA (A':=mJ h.wb id b {k with steps:=k.steps+1} hv p1 p2 p3 p4 (some ⟨d,0,none⟩) p6 p7) R hT aE ⟨rfl,rfl⟩ dE (by rw[aM];omega) λw1 T1 i e _ _=>?_;have S:McR w1 T1 o b h id p1 p2 p3 p4 (some ⟨d,0,none⟩) p6 p7 (.look x):=qP ⟨d,rfl,X⟩ hT i;obtain⟨_,V,W⟩:=S;cases V;have Y:=jW U hT i;have Z:=L.gx i;have A:=H.bP i hT g;have I:=i.rel;have J:=ky I e;have f0:an (hp w1 kb) (0+6+0)=some (bN 12):=by have t:an (hp w1 kb) (0+6+0)=some (bN k.o.1):=J.o0;rw[E]at t;exact t
 simp only[ac,fV,po,am,ag,ld_168,f0,J.c5,Int.reduceBEq,zS];have fin:∀(r:bd×jE),aw c id m k=r->∀j f,Gx (fK h T o) w T j f->dG f h c r.1->tW j f o kb h c id r.2->P102_0 j (uc T w o kb h c (aw c id m k).1 id (aw c id m k).2):=by
  rintro r rfl j f h1 h2 h3;apply L102_0_ok;exact⟨rfl,f,h1,h2,h3⟩
 refine(c_LkStep N I A g M W O).mono ?_;rintro _ w2 ⟨_,T2,n,H2,X2⟩;have a:=n.off kb _ e (SM.un A e g (.inr dC));have U2:=Y.sm A n g (.inr dC);have L2:=Z.gx n;have B:Gx (fK h T o) w T w2 T2:=fK.then (fO hT i) (wkSM n)
 have e0:aw c id m k=(m,bO {k with steps:=k.steps+1,point:=1} ((nW c m x).code,kJ,(nW c m x).off,0)):=by
  rw[aw,bV (by rw[hb];decide)];simp only[K];rw[bV (by rw[E];decide)]
 try simp only[ac,eM]
 refine aA (A':=mJ h.wb id b {k with steps:=k.steps+1,point:=1} hv p1 p2 p3 p4 (some ⟨d,0,none⟩) p6 p7) n.rel a aE ⟨rfl,rfl⟩ dE (by rw[aM];omega) λu T3 l p _ _=>?_;generalize nW c m x=v at*;have q:T2 d=some (lkN o h.wb v):=X2;have C:=l.off d _ q (ay q a dC);have U3:=jW U2 a l;have L3:=L2.gx l;have H3:=H2.bP l a g;have y:=l.rel;have F3:=ky y p;have D:=fK.then B (fO a l)
 have s:hp u d=some (.cells (lkA h.wb v) 226):=y.kK C;have fo:an (hp u d) (0+3)=some (bN v.off):=by rw[s];rfl
 have fc:an (hp u d) (0+4)=some (bN v.code):=by rw[s];rfl
 simp only[ae,ac,fa_226_3,rB,ag,jd,F3.c5,fo,fc,bd_rs02,zS];have z:=(ad.refl [] u).drew;refine mS (k:={k with steps:=k.steps+1,point:=1}) (y.aF z) H3 g (U3.aF z) (L3.aF z) p _ λj f g5 H5 K5=>?_;exact fin _ e0 j f (fK.then (fK.then D (Gx.bL y z)) g5) H5 K5
theorem s_hold(N:gG c)(R:Rel w T)(H:dG T h c m)(u:o≠0)(M:ee c m)(hT:T kb=some (tU o h.wb id b k hv p1 p2 p3 p4 p5 p6 p7))(U:fN w T o b sb lb h c k.su)(L:SlK w T hv k.holds)(hs:0<=k.steps/\k.steps<=1000000000)(hb:k.busy=true)(hk:k.o.1=5){x:LkV}(hm:k.mc= .look x)(X:McR w T o b h id p1 p2 p3 p4 p5 p6 p7 (.look x))(OX:LkOk c x)(S:k.holds.length<=100):
  aa prog 102 [ptr kb] w (uc T w o kb h c (aw c id m k).1 id (aw c id m k).2):=by
 obtain⟨d,rfl,X⟩:=X;apply F102_ok;have F:=ky R hT;have fb:=F.busy;rw[hb]at fb;have ew:IntKind.i64.wrap (k.steps+1)=k.steps+1:=ap dB dB;rw[F102];simp only[ptr,ae,ac,aV,jN,az,ag,fb,F.steps,aj,ew,zS];refine aA (A':=mJ h.wb id b {k with steps:=k.steps+1} hv p1 p2 p3 p4 (some ⟨d,0,none⟩) p6 p7) R hT aE ⟨rfl,rfl⟩ dE (by rw[aM];omega) λw1 T1 A v _ _=>?_;have XX:McR w1 T1 o b h id p1 p2 p3 p4 (some ⟨d,0,none⟩) p6 p7 (.look x):=qP ⟨d,rfl,X⟩ hT A;obtain⟨_,eq,X1⟩:=XX;cases eq;have U1:=jW U hT A;have L1:=L.gx A;have V:=H.bP A hT u;have R1:=A.rel;have F1:=ky R1 v;have f0:an (hp w1 kb) (0+6+0)=some (bN 5):=by have t:an (hp w1 kb) (0+6+0)=some (bN k.o.1):=F1.o0;rw[hk]at t;exact t
 simp only[ac,fV,po,am,ag,ld_168,f0,F1.c5,Int.reduceBEq,zS];have fin:∀(r:bd×jE),aw c id m k=r->∀B y,Gx (fK h T o) w T B y->dG y h c r.1->tW B y o kb h c id r.2->P102_0 B (uc T w o kb h c (aw c id m k).1 id (aw c id m k).2):=by
  rintro r rfl B y h1 h2 h3;apply L102_0_ok;exact⟨rfl,y,h1,h2,h3⟩
 refine(c_LkStep N R1 V u M X1 OX).mono ?_;rintro _ w2 ⟨_,T2,G,H2,X2⟩;have e:=G.off kb _ v (SM.un V v u (.inr dC));have U2:=U1.sm V G u (.inr dC);have L2:=L1.gx G;have W:Gx (fK h T o) w T w2 T2:=fK.then (fO hT A) (wkSM G)
 have O:aw c id m k=(m,bO (if(nW c m x).code=0 then kF {k with steps:=k.steps+1,point:=1} k.h.1 k.h.2.1 else{k with steps:=k.steps+1,point:=1}) (bn (nW c m x).code)):=by
  rw[aw,bV (by rw[hb];decide)];simp only[hm];rw[bU hk]
 try simp only[ac,eM]
 refine aA (A':=mJ h.wb id b {k with steps:=k.steps+1,point:=1} hv p1 p2 p3 p4 (some ⟨d,0,none⟩) p6 p7) G.rel e aE ⟨rfl,rfl⟩ dE (by rw[aM];omega) λj T3 C a _ _=>?_;generalize nW c m x=i at*;have I:T2 d=some (lkN o h.wb i):=X2;have l:=C.off d _ I (ay I e dC);have U3:=jW U2 e C;have L3:=L2.gx C;have H3:=H2.bP C e u;have D:=C.rel;have F3:=ky D a;have J:=fK.then W (fO e C)
 have K:hp j d=some (.cells (lkA h.wb i) 226):=D.kK l;have fo:an (hp j d) (0+3)=some (bN i.off):=by rw[K];rfl
 have Y:an (hp j d) (0+4)=some (bN i.code):=by rw[K];rfl
 have f:∀(p:World) (q:dH) (E:jE) (g:Value),Gx (fK h T o) w T p q->dG q h c m->fN p q o b sb lb h c E.su->SlK p q g E.holds->q kb=some (tU o h.wb id b E g p1 p2 p3 p4 (some ⟨d,0,none⟩) p6 p7)->q d=some (lkN o h.wb i)->aw c id m k=(m,bO E (bn i.code))->
   P102_1 (ptr kb) p (uc T w o kb h c (aw c id m k).1 id (aw c id m k).2):=by
  intro p q E g g4 H4 U4 Z s z e4;apply L102_1_ok;have F4:=ky g4.rel s;have a1:hp p d=some (.cells (lkA h.wb i) 226):=g4.rel.kK z;have a2:an (hp p d) (0+4)=some (bN i.code):=by rw[a1];rfl
  simp only[L102_1,ptr,ae,ac,po,rB,jd,ld_168,F4.c5,a2,ku];refine mS (k:=E) g4.rel H4 u U4 Z s _ λB y g5 H5 K5=>?_;exact fin _ e4 B y (fK.then g4 g5) H5 K5
 simp only[ptr]at f;by_cases P:i.code=0
 ·rw[P]at Y;rw[bU P]at O;have a3:an (hp j kb) (0+12+0)=some (bN k.h.1):=by rw[show hp j kb=some (.cells (mJ h.wb id b {k with steps:=k.steps+1,point:=1} hv p1 p2 p3 p4 (some ⟨d,0,none⟩) p6 p7) 172)from D.kK a];rfl
  have a4:an (hp j kb) (0+12+1)=some (bN k.h.2.1):=by rw[show hp j kb=some (.cells (mJ h.wb id b {k with steps:=k.steps+1,point:=1} hv p1 p2 p3 p4 (some ⟨d,0,none⟩) p6 p7) 172)from D.kK a];rfl
  simp only[ae,ac,jM,fa_172_6,rB,bu,gm,ag,jd,F3.c5,Y,a3,a4,zS];have Q:=(ad.refl [] j).drew;refine(c_gHold (k:={k with steps:=k.steps+1,point:=1}) (D.aF Q) a (L3.aF Q) S k.h.1 k.h.2.1).mono ?_;rintro _ p ⟨⟨n,rfl⟩,q,g,g4,Z,s⟩;have z:=g4.off d _ l (ay l a dC);have a5:(kF {k with steps:=k.steps+1,point:=1} k.h.1 k.h.2.1).su=k.su:=by unfold kF;split<;>rfl
  exact f p q _ g (fK.then (fK.then J (Gx.bL D Q)) (fO a g4)) (H3.bP g4 a u) (by rw[a5];exact jW (U3.aF Q) a g4) Z s z O
 ·have qc:(i.code==0)=false:=cH P;rw[bV P]at O;simp only[ae,ac,rB,jd,F3.c5,Y,qc,zS];exact f j T3 {k with steps:=k.steps+1,point:=1} hv J H3 U3 L3 a l O
end
section
variable{w w0 w1 w2 w':World}{T T1 T2 T':dH}{h:Hm}{c:cx}{m m':bd}{o o' b sb lb q kb wb q4 q5:Nat}{es es':List TypeId}{k:jE}{id:Nat}{hv:Value}{p1 p2 p3 p4 p5 p6 p7:Option Addr}
theorem s_touch(N:gG c)(R:Rel w T)(H:dG T h c m)(A:o≠0)(M:ee c m)(hT:T kb=some (tU o h.wb id b k hv p1 p2 p3 p4 p5 p6 p7))(U:fN w T o b sb lb h c k.su)(L:SlK w T hv k.holds)(hs:0<=k.steps/\k.steps<=1000000000)(hb:k.busy=true)(hk:6<=k.o.1/\k.o.1<=9)(hm:k.mc= .none)(hc:0<=k.h.2.2.1/\k.h.2.2.1<cC c)(hi:0<=k.h.2.2.2.1+k.o.2.2.2.1/\k.h.2.2.2.1+k.o.2.2.2.1<cK c):
  aa prog 102 [ptr kb] w (uc T w o kb h c (aw c id m k).1 id (aw c id m k).2):=by
 apply F102_ok;have F:=ky R hT;have fb:=F.busy;rw[hb]at fb;have ew:IntKind.i64.wrap (k.steps+1)=k.steps+1:=ap dB dB;rw[F102];simp only[ptr,ae,ac,aV,jN,az,ag,fb,F.steps,aj,ew,zS];refine aA (A':=mJ h.wb id b {k with steps:=k.steps+1} hv p1 p2 p3 p4 p5 p6 p7) R hT aE ⟨rfl,rfl⟩ dE (by rw[aM];omega) λw1 T1 B g _ _=>?_;have U1:=jW U hT B;have L1:=L.gx B;have v:=H.bP B hT A;have i:=B.rel;have a:hp w1 kb=some (.cells (mJ h.wb id b {k with steps:=k.steps+1} hv p1 p2 p3 p4 p5 p6 p7) 172):=i.kK g;have f0:an (hp w1 kb) (0+0)=some (ptr h.wb):=by rw[a];rfl
 have f6:an (hp w1 kb) (0+6+0)=some (bN k.o.1):=by rw[a];rfl
 have f9:an (hp w1 kb) (0+6+3)=some (bN k.o.2.2.2.1):=by rw[a];rfl
 have O:an (hp w1 kb) (0+6+4)=some (bR k.o.2.2.2.2.1):=by rw[a];rfl
 have P:an (hp w1 kb) (0+6+5)=some (bR k.o.2.2.2.2.2):=by rw[a];rfl
 have Q:an (hp w1 kb) (0+12+2)=some (bN k.h.2.2.1):=by rw[a];rfl
 have S:an (hp w1 kb) (0+12+3)=some (bN k.h.2.2.2.1):=by rw[a];rfl
 have fin:∀(r:bd×jE),aw c id m k=r->∀C x,Gx (fK h T o) w T C x->dG x h c r.1->tW C x o kb h c id r.2->P102_0 C (uc T w o kb h c (aw c id m k).1 id (aw c id m k).2):=by
  rintro r rfl C x h1 h2 h3;apply L102_0_ok;exact⟨rfl,x,h1,h2,h3⟩
 obtain⟨kc,j⟩:∃kc:Nat,k.h.2.2.1=kc:=⟨k.h.2.2.1.toNat,(dy hc.1).symm⟩
 obtain⟨l,n⟩:∃l:Nat,k.h.2.2.2.1+k.o.2.2.2.1=l:=⟨(k.h.2.2.2.1+k.o.2.2.2.1).toNat,(dy hi.1).symm⟩
 have V:kc<cC c:=by rw[j]at hc;omega
 have W:l<cK c:=by rw[n]at hi;omega
 have e0:aw c id m k=((ie m (aWd c kc l) k.o.1 k.o.2.2.2.2.1 k.o.2.2.2.2.2).1,bO {k with steps:=k.steps+1,point:=1} (ie m (aWd c kc l) k.o.1 k.o.2.2.2.2.1 k.o.2.2.2.2.2).2):=by
  rw[aw,bV (by rw[hb];decide)];simp only[hm,j,n,cj]
 have N3:=N.n3;have B3:=N.b3;have X:IntKind.i64.wrap (k.h.2.2.2.1+k.o.2.2.2.1)=l:=by rw[n];exact ap dB dB
 have q1:(k.o.1==1)=false:=cH dB;have q2:(k.o.1==2)=false:=cH dB;have q3:(k.o.1==3)=false:=cH dB;have q4:(k.o.1==4)=false:=cH dB;have q5:(k.o.1==5)=false:=cH dB;have Y:(k.o.1==10)=false:=cH dB;have Z:(k.o.1==11)=false:=cH dB;have a1:(k.o.1==12)=false:=cH dB;have p:=fun{w1:World} {T1:dH} (i:Rel w1 T1) (v:dG T1 h c m)=>c_Touch N i v M V W k.o.1 k.o.2.2.2.2.1 k.o.2.2.2.2.2;generalize ie m (aWd c kc l) k.o.1 k.o.2.2.2.2.1 k.o.2.2.2.2.2=r at*;have d:∀(q:Nat) (f:World) (D:dH),Gx (SM h T1 o []) w1 T1 f D->dG D h c r.1->hp f q=some (.cells (od r.2) 35)->D q=none->
   P102_2 (ptr kb) (ptr q) f (uc T w o kb h c (aw c id m k).1 id (aw c id m k).2):=by
  intro q f D g4 H4 G I;apply L102_2_ok;have e:=g4.off kb _ g (SM.un v g A (.inr dC));have U4:=U1.sm v g4 A (.inr dC);have L4:=L1.gx g4;have a2:Gx (fK h T o) w T f D:=fK.then (fO hT B) (wkSM g4)
  simp only[L102_2,ptr,ae,ac,eM];refine aA (A':=mJ h.wb id b {k with steps:=k.steps+1,point:=1} hv p1 p2 p3 p4 p5 p6 p7) g4.rel e aE ⟨rfl,rfl⟩ dE (by rw[aM];omega) λC x y a3 _ _=>?_;have b5:=y.loc G I;rw[ld_rs b5.1,ac];refine mS (k:={k with steps:=k.steps+1,point:=1}) y.rel (H4.bP y e A) A (jW U4 e y) (L4.gx y) a3 _ λw6 T6 g6 H6 K6=>?_;exact fin _ e0 w6 T6 (fK.then (fK.then a2 (fO e y)) g6) H6 K6
 simp only[ptr]at d p;have cd:=(ad.refl [] w1).drew;have E:=i.aF cd;simp only[ptr,ac,hJ,fV,fa_172_6,am,bc,fr,mh,eX,hC,ag,br,fW,f0,f6,f9,O,P,Q,S,q1,q2,q3,q4,q5,Y,Z,a1,aj,X,j,zS];refine⟨?_,?_⟩
 ·rw[al_35];generalize s:World.alloc _ _=w2;have c2:ad [] w1 w2:=by rw[<- s];exact cd.alloc _
  have b2:hp w2 w1.drew.heap.size=some (.cells (od lR) 35):=by rw[<- s,af,bU rfl];rfl
  have n2:T1 w1.drew.heap.size=none:=E.fresh (cy _);clear s;obtain⟨q,hq⟩:∃q,q=w1.drew.heap.size:=⟨_,rfl⟩
  rw[<- hq]at b2 n2⊢;have t:w1.heap.size<=q:=by rw[hq];exact cy _
  refine(p (i.aF c2) v).mono ?_;rintro _ z ⟨rfl,J,u,H3⟩;have K:=u.loc b2 n2;rw[st_rs K.1];refine d q _ J ((Gx.putL ((Gx.bL i c2).trans u) t K.2).mono λ_ h=> .inl h) H3 (ar (nZ K.1) _ _) K.2
 ·refine(p E v).mono ?_;rintro _ z ⟨rfl,J,u,H3⟩;rw[al_35];generalize s:World.alloc _ _=f;have c4:ad [] z f:=by rw[<- s];exact(ad.refl _ _).alloc _
  have G:hp f z.heap.size=some (.cells (od lR) 35):=by rw[<- s,af,bU rfl];rfl
  have I:J z.heap.size=none:=u.rel.fresh (cy _);clear s;have t:w1.heap.size<=z.heap.size:=u.size;generalize z.heap.size=q at*;rw[st_rs G];refine d q _ J ((Gx.putL (((Gx.bL i cd).trans u).trans (Gx.bL u.rel c4)) t I).mono λ_ h=> .inl h) H3 (ar (nZ G) _ _) I
theorem c_Step(N:gG c)(R:Rel w T)(H:dG T h c m)(e:o≠0)(K:tW w T o kb h c id k)(M:ee c m)(g:id<cW c)(d:WkOk c m k):
  aa prog 102 [ptr kb] w λv w'=>v= .bool k.busy/\∃T',Gx (fK h T o) w T w' T'/\dG T' h c (aw c id m k).1/\tW w' T' o kb h c id (aw c id m k).2:=by
 have l:=K;obtain⟨b,sb,lb,hv,p1,p2,p3,p4,p5,p6,p7,hT,U,L,X⟩:=K;cases hb:k.busy with
 |false=>
  apply F102_ok;have j:=(ky R hT).busy;rw[hb]at j;simp only[F102,ptr,ae,ac,aV,az,j,zS];rw[aw,bU hb];exact⟨by first|rfl|trivial,T,Gx.refl R,H,l⟩
 |true=>
 have a:=d.mc hb;have i:aa prog 102 [ptr kb] w (uc T w o kb h c (aw c id m k).1 id (aw c id m k).2):=by
  generalize f:k.mc=x at X a;cases x with
  |create x=>exact s_create N R H e M hT U L d.steps hb a.1 f X a.2
  |alloc x=>exact s_alloc N R H e M hT U L d.steps hb a.1 f X d.su d.room a.2
  |enter x=>exact s_enter N R H e M hT U L d.steps hb a.1 f X g d.depth a.2
  |leave x=>exact s_leave N R H e M hT U L d.steps hb a.1 f X g d.depth a.2
  |look x=>
   rcases a.1 with hk|hk
   ·exact s_hold N R H e M hT U L d.steps hb hk f X a.2.1 d.holds
   ·exact s_stats N R H e M hT U L d.steps hb hk f X a.2.1 d.holds
  |free x=>exact s_free N R H e M hT U L d.steps hb a.1 f X d.su a.2
  |collect x=>exact s_collect N R H e M hT U L d.steps hb a.1 f X d.su a.2.2 a.2.1
  |none=>exact s_touch N R H e M hT U L d.steps hb a.1 f a.2.1 a.2.2
 exact i.mono λv w' n=>n
end
section
variable{w w0 w1 w2 w':World}{T T1 T2 T':dH}{h:Hm}{c:cx}{m m':bd}{o o' b sb lb q kb wb q4 q5:Nat}{es es':List TypeId}{k:jE}{id:Nat}{hv:Value}{p1 p2 p3 p4 p5 p6 p7:Option Addr}
theorem fi_rt(r:RtV):ai prog (Instr.field 231 (.agg (lN r)) 0)=some (bN r.gen):=pr_field1 (c:=lN r) (off:=0) (z:=1) dE rfl
theorem c_Root(N:gG c)(R:Rel w T)(H:dG T h c m)(M:ee c m){i:Nat}(y:i<cS c):aa prog 205 [ptr h.wb,bN i] w λv w'=>v= .agg (lN (aP (cf m (iI c i))))/\ad [] w w':=by
 apply F205_ok;rw[F205];dsimp only;rw[tE];generalize o:World.alloc _ _=w1;have z:ad [] w w1:=by rw[<- o];exact(ad.refl _ _).alloc _
 have A:hp w1 w.heap.size=some (.cells (lN ⟨0,0,0,0⟩) 231):=by rw[<- o,af,bU rfl];rfl
 clear o;obtain⟨q,I⟩:∃q,q=w.heap.size:=⟨_,rfl⟩
 rw[<- I]at A⊢;have p:w.heap.size<=q:=dB;have r:=R.aF z;have B:=M.rt y;have C:=(ad.refl [] w1).drew;have fs:∀{w2:World},ad [] w1 w2->∃g k,an (hp w2 h.wb) (0+6)=some (ptr h.mb)/\an (hp w2 h.mb) (0+0)=some (.slice (some ⟨g,0,none⟩) m.length k)/\ai prog (Instr.indexAt 139 (.slice (some ⟨g,0,none⟩) m.length k) (bN (iI c i)))=some (.pointer (some ⟨g,iI c i,none⟩))/\an (hp w2 g) (iI c i)=some (bR (cf m (iI c i))):=λa=>by
  have D:=r.aF a;obtain⟨g,k,n,Q,hb,S,J,_,_,d⟩:=H.mem D dB;exact⟨g,k,(mR D H).1,by rw[hb];rfl,(d _ B).1,(d _ B).2⟩
 obtain⟨g,k,E,b,ix,_⟩:=fs (w2:=w1) (ad.refl _ _);have f:∀{w2:World},ad [] w1 w2->an (hp w2 h.wb) (0+6)=some (ptr h.mb)/\an (hp w2 h.mb) (0+0)=some (.slice (some ⟨g,0,none⟩) m.length k)/\an (hp w2 g) (iI c i)=some (bR (cf m (iI c i))):=fun{w2} a=>by
  obtain⟨U,k2,K,F,V,L⟩:=fs a;obtain⟨n,hb⟩:∃cs,hp w1 h.mb=some cs:=⟨_,(H.mem r dB).choose_spec.choose_spec.choose_spec.2.1⟩
  have s:=a.at hb (by simp);have e:an (hp w2 h.mb) (0+0)=an (hp w1 h.mb) (0+0):=by rw[s,hb]
  rw[e,b]at F;cases F;exact⟨K,by rw[e,b],L⟩
 simp only[ptr]at E b f;have b:an (hp w1 h.mb) (0+0)=some (.slice (some ⟨g,0,none⟩) m.length k):=b;simp only[ptr,ae,ac,zS,bJ,eZ,jO,bx,jC,E,b,mQ (r.aF C) H];refine⟨⟨?_,?_⟩,?_⟩;all_goals
  refine(lE N y).mono ?_;rintro _ w2 ⟨rfl,a⟩;have j:=C.trans a;obtain⟨t,x,O⟩:=f j;simp only[ae,ac,jO,jC,br,t,x,ix,O];refine(iO (iw M.u _)).mono ?_;rintro _ W ⟨rfl,P⟩;have l:=j.trans P;have G:=l.at A (by simp);rw[st_rt G rfl,sf (ar (nZ G) _ _),ac];exact⟨rfl,(z.trans l).put (.inr p) _ _⟩
def PtOk(c:cx)(k:jE):McV->Prop
 | .create x=>0<=x.slot/\x.slot<cS c
 |_=>True
theorem c_Will(N:gG c)(R:Rel w T)(H:dG T h c m)(M:ee c m)(K:tW w T o kb h c id k)(OK:k.busy=true->McOk c m k k.mc)(V:k.busy=true->k.point≠0->PtOk c k k.mc):
  aa prog 154 [ptr kb] w λv w'=>∃u,v= .tuple #[.agg (od (jH c m k)),.bool u]/\ad [] w w':=by
 apply F154_ok;rw[F154];dsimp only;rw[al_35];generalize W:World.alloc _ _=w1;have Y:ad [] w w1:=by rw[<- W];exact(ad.refl _ _).alloc _
 have Z:hp w1 w.heap.size=some (.cells (od lR) 35):=by rw[<- W,af,bU rfl];rfl
 clear W;obtain⟨q,hq⟩:∃q,q=w.heap.size:=⟨_,rfl⟩
 rw[<- hq]at Z⊢;have t:w.heap.size<=q:=dB;have A:=R.aF Y;obtain⟨b,sb,lb,hv,p1,p2,p3,p4,p5,p6,p7,hT,U,L,X⟩:=K;have a:hp w1 kb=some (.cells (mJ h.wb id b k hv p1 p2 p3 p4 p5 p6 p7) 172):=A.kK hT;have B:∀{w2:World},ad [] w1 w2->hp w2 kb=some (.cells (mJ h.wb id b k hv p1 p2 p3 p4 p5 p6 p7) 172):=λf=>f.at a (by simp);have fw:an (hp w1 kb) (0+0)=some (ptr h.wb):=by rw[a];rfl
 have i:an (hp w1 kb) (0+5)=some (.bool k.busy):=by rw[a];rfl
 have j:an (hp w1 kb) (0+6+0)=some (bN k.o.1):=by rw[a];rfl
 have C:an (hp w1 kb) (0+18)=some (bN k.point):=by rw[a];rfl
 have fl:∀{w2:World},ad [] w1 w2->gi prog 35 (.pointer (some ⟨kb,0+20,none⟩)) w2=some (.agg (od k.last)):=λf=>by rw[ld_35,B f];rfl
 have n:=(ad.refl [] w1).drew;have fin:∀(w2:World) (r:jI) (u:Bool),ad [] w1 w2->jH c m k=r->ck prog (Instr.storeAt 35 (bS q) (.agg (od r))) w2 λwz=>mV (gi prog 35 (bS q) wz) λa1=>∃u',Value.tuple #[a1,.bool u]= .tuple #[.agg (od (jH c m k)),.bool u']/\ad [] w wz:=by
  rintro w2 r u f rfl;have D:=f.at Z (by simp);rw[st_rs D,ld_rs (ar (nZ D) _ _),ac];exact⟨u,rfl,(Y.trans f).put (.inr t) _ _⟩
 cases hb:k.busy with
 |false=>
  rw[hb]at i;have d:jH c m k=k.last:=by rw[jH,bU hb]
  simp only[ptr,ae,ac,zS,aV,fV,fa_172_10,am,az,ag,i,j,fl n];refine⟨?_,?_⟩
  ·exact fin _ _ _ n d
  ·have D:=n.at Z (by simp);rw[st_rs D];have cz:ad [] w (put w1.drew q (od k.last) 35):=(Y.trans n).put (.inr t) _ _;have kz:an (hp (put w1.drew q (od k.last) 35) kb) (0+6+0)=some (bN k.o.1):=by rw[show hp (put w1.drew q (od k.last) 35) kb=_ from(R.aF cz).kK hT];rfl
   simp only[ac,zS,kz,ld_rs (ar (nZ D) _ _)];exact⟨_,by rw[d],cz⟩
 |true=>
 rw[hb]at i;have E:=OK hb;have n0:¬k.busy=false:=by rw[hb];decide
 by_cases F:k.point=0
 ·have d:jH c m k=lR:=by rw[jH,bV n0,bU F]
  have s:(k.point==0)=true:=by rw[F];rfl
  simp only[ptr,ae,ac,zS,aV,eM,az,ag,i,C,s,bd_rs_];exact fin _ _ _ (ad.refl _ _) d
 ·have d:jH c m k=(match k.mc with
   | .create x=>(0,(x.slot,aY (aP (cf m (iI c x.slot.toNat))).gen,0,0,0),0,0)
   | .alloc x=>(x.code,x.h,0,0)
   | .free x=>bn x.code
   |_=>lR):=by rw[jH,bV n0,bV F];rfl
  have s:(k.point==0)=false:=cH F;have PO:=V hb F;generalize hm:k.mc=x at X E PO d;have G:∀(Q:k.o.1≠1/\k.o.1≠2/\k.o.1≠10) (S:jH c m k=lR),jH c m k=lR/\(k.o.1==1)=false/\(k.o.1==2)=false/\(k.o.1==10)=false:=λQ S=>⟨S,cH Q.1,cH Q.2.1,cH Q.2.2⟩
  cases x with
  |create x=>
   obtain⟨e,rfl,X⟩:=X;obtain⟨y,I,_⟩:=X;rw[E.1]at j;obtain⟨J,p⟩:∃J:Nat,x.slot=J:=⟨x.slot.toNat,(dy PO.1).symm⟩
   have a2:J<cS c:=by have:=PO.2;rw[p]at this;omega
   have O:∀{w2:World},ad [] w1 w2->an (hp w2 kb) (0+28)=some (ptr e)/\an (hp w2 e) (0+5)=some (bN J):=λf=>by
    rw[B f,show hp _ e=_ from(A.aF f).kK I];exact⟨rfl,by rw[<- p];rfl⟩
   obtain⟨a3,s1⟩:=O (ad.refl _ _);simp only[p,cj]at d;have rb:=rt_bd (iw M.u (iI c J));simp only[ptr,ae,ac,zS,hJ,aV,fV,eM,pn,am,ny,az,ag,fW,ld_164,fw,i,j,C,s,a3,s1,Int.reduceBEq];repeat' apply And.intro
   all_goals
    refine(c_Root N (A.aF n) H M a2).mono ?_;rintro _ w2 ⟨rfl,f⟩;have P:=n.trans f;obtain⟨l,s2⟩:=O P;simp only[ptr,ae,ac,ny,ag,l,s2,fi_rt];refine(c_rLater _ rb.1.2 w2 rb.1.1).step ?_;simp only[ptr,ae,ac,ny,ag,l,s2,bd_hn2,bd_rsH];exact fin _ _ _ P d
  |alloc x=>
   simp only at d;obtain⟨e,rfl,X⟩:=X;obtain⟨y,z,I,_⟩:=X;rw[E.1]at j;have a4:an (hp w1 kb) (0+29)=some (ptr e):=by rw[a];rfl
   have g:hp w1 e=some (.cells (qT b x (.pointer y) (.pointer z)) 237):=A.kK I;have fc:an (hp w1 e) (0+13)=some (bN x.code):=by rw[g];rfl
   have fh:gi prog 32 (.pointer (some ⟨e,0+14,none⟩)) w1.drew=some (.agg (tp x.h)):=by rw[ld_32,show hp w1.drew e=_ from g];rfl
   simp only[ptr,ae,ac,zS,aV,fV,eM,fa_172_12,am,sH,fa_237_14,az,ag,jd,ld_165,i,j,C,s,a4,fc,fh,Int.reduceBEq,bd_rs01];exact fin _ _ _ n d
  |free x=>
   simp only at d;obtain⟨e,rfl,X⟩:=X;obtain⟨eb,y1,y2,y3,I,_⟩:=X;rw[E.1]at j;have a5:an (hp w1 kb) (0+33)=some (ptr e):=by rw[a];rfl
   have g:hp w1 e=some (.cells (frA b x (ptr eb) (.pointer y1) (.pointer y2) (.pointer y3)) 243):=A.kK I;have fc:an (hp w1 e) (0+10)=some (bN x.code):=by rw[g];rfl
   simp only[ptr,ae,ac,zS,aV,fV,eM,fa_172_16,am,fa_243_10,az,ag,jd,ld_169,i,j,C,s,a5,fc,Int.reduceBEq,ku];exact fin _ _ _ (ad.refl _ _) d
  |_=>
   simp only at d;obtain⟨S,q1,q2,a6⟩:=G (by simp only[McOk]at E;omega) d;simp only[ptr,ae,ac,zS,aV,fV,eM,am,az,ag,i,j,C,s,q1,q2,a6,bd_rs_];exact fin _ _ _ (ad.refl _ _) S
end
section
variable{w w0 w1 w2 w':World}{T T1 T2 T':dH}{h:Hm}{c:cx}{m m':bd}{o o' b sb lb q kb wb:Nat}
theorem c_r5New(R:Rel w T)(n:Nat)(y:n<=10000000):aa prog 90 [bN n] w λv w'=>∃mb T',v=ptr mb/\Gx (λ_=>False) w T w' T'/\w.heap.size<=mb/\T' mb=some (memN (List.replicate n 0) 0):=by
 apply F90_ok;obtain⟨s,b,d,a,e⟩:=inf_33;simp only[F90,jm (P:=prog) (kl:= .i64) (kc:= .i64) (n:=n) Tryz.underlying139 b d (by rw[a];omega) (by rw[e];omega) dB];have f:madeCells (Value.int .u64 0).cells (n*s.size)=(fZ (List.replicate n 0)).toArray:=by
  apply Array.toList_inj.1;rw[a,dr];have:=toList_madeCells_one (Value.int .u64 0) n;rw[fZ,List.map_replicate];exact this
 rw[f];have t:(w.alloc (.cells (fZ (List.replicate n 0)).toArray 33)).ownsRow w.heap.size 33 1 (.slice (some ⟨w.heap.size,0,none⟩) n n) n (fZ (List.replicate n 0)):=
  ⟨by simp[fZ],.inr ⟨w.heap.size,n,_,rfl,cy _,heap_alloc_new w _,cy _,by unfold maxLen;omega,by simp[fZ],by simp[fZ]⟩⟩
 generalize i:w.alloc (.cells (fZ (List.replicate n 0)).toArray 33)=l at*;have q:ad [] w l:=by rw[<- i];exact(ad.refl _ _).alloc _
 have m:ai prog (Instr.build 204 #[(0,.slice (some ⟨w.heap.size,0,none⟩) n n)])=some (.agg #[.slice (some ⟨w.heap.size,0,none⟩) n n,bN 0]):=bd_204_0;simp only[m,ak,aq,ac];obtain⟨T',o,g⟩:=Gx.newg (S:=λ_=>False) (w:=w) (w1:=l) (k:=0) (cs:= [.gr 33 1 n (fZ (List.replicate n 0)),.v (bN 0)]) (vs:= [.slice (some ⟨w.heap.size,0,none⟩) n n,bN 0]) R q (cy _) t 0 204 rfl rfl rfl (λj c u z r x=>by
  have p:=(bY.1 r).1;have:j=1:=by simp at p;omega
  subst this;cases r;cases x;rfl)
 refine⟨l.heap.size,T',rfl,g,q.size,?_⟩;rw[o,memN,dz]
def qQ(s:iF)(m:bd)(i:Nat):bd:=(List.range i).foldl (λm i=>m.set (s.dV+i) (if i+1=s.n then 0 else(((i+2)%(s.n+1):Nat):Int))) m
theorem qD(s:iF)(m:bd)(i:Nat):qQ s m (i+1)=(qQ s m i).set (s.dV+i) (if i+1=s.n then 0 else(((i+2)%(s.n+1):Nat):Int)):=by
 rw[qQ,List.range_succ,List.foldl_append];rfl
theorem fillN_len(s:iF)(m:bd):∀i,(qQ s m i).length=m.length
 |0=>rfl
 |i+1=>by rw[qD,cE,fillN_len s m i]
def memS(h:Hm)(q:Nat):Prop:=q=h.mb
theorem l_fill{s:iF}{b:Nat}(sT:∀{w:World} {T:dH} {m:bd},Rel w T->dG T h c m->hp w b=some (.cells (og h.mb s).toArray 156))(d:bd)(hl:s.dV+s.n<=d.length)(hn:s.n<=100000)(z:s.dV<=100000000):∀(f i:Nat),i+f=s.n->∀{w:World} {T:dH},Rel w T->dG T h c (qQ s d i)->
  P95_0 (ptr b) (bN i) w λv w'=>v= .tuple #[]/\∃T',Gx (memS h) w T w' T'/\dG T' h c (qQ s d s.n)
 |f,i,A,w,T,R,H=>by
  apply L95_0_ok;have hb:=sT R H;have f0:an (hp w b) (0+0)=some (ptr h.mb):=by rw[hb];rfl
  have f2:an (hp w b) (0+2)=some (bN s.dV):=by rw[hb];rfl
  have O:an (hp w b) (0+3)=some (bN s.n):=by rw[hb];rfl
  rcases dh i s.n with hi|hi
  ·match f,A with
   |0,A=>omega
   |f+1,A=>
   have q1:(i:Int)<s.n:=dB;have P:=fillN_len s d i;have Q:=(ad.refl [] w).drew;have S:=R.aF Q;obtain⟨g,k,n,B,C,hg,a2,ho,NN,D⟩:=H.mem S dB;obtain⟨q2,q3⟩:=D (s.dV+i) dB;have E:an (hp w h.mb) (0+0)=some (.slice (some ⟨g,0,none⟩) (qQ s d i).length k):=by rw[show hp w h.mb=_ from C];rfl
   have U:IntKind.i64.wrap ((s.dV:Int)+i)=((s.dV+i:Nat):Int):=by rw[ap dB dB];omega
   have e2:IntKind.i64.wrap ((i:Int)+2)=((i+2:Nat):Int):=by rw[ap dB dB];omega
   have e3:IntKind.i64.wrap ((s.n:Int)+1)=((s.n+1:Nat):Int):=by rw[ap dB dB];omega
   have e5:IntKind.i64.wrap ((i:Int)+1)=((i+1:Nat):Int):=by rw[ap dB dB];omega
   have V:(i+2)%(s.n+1)<s.n+1:=Nat.mod_lt _ dB;have W:IntKind.i64.wrap ((s.n:Int)-1)=(s.n:Int)-1:=ap dB dB;have e7:IntKind.u64.wrap (Int.tmod ((i+2:Nat):Int) ((s.n+1:Nat):Int))=(((i+2)%(s.n+1):Nat):Int):=by rw[Int.tmod_eq_emod_of_nonneg dB,<-Int.natCast_emod,nr dB dB]
   have F:((s.n+1:Nat):Int)≠0:=dB;simp only[L95_0,ptr,ae,ac,kU,fa_156_2,ph,jO,ag,bx,jC,f0,f2,O,q1,E,U,e2,e3,e7,q2,aG,aj,km F,kX,decide_true,zS];obtain⟨ok,T1,t,u⟩:=H.set S B NN (a:=s.dV+i) dB (((i+2)%(s.n+1):Nat):Int);rw[nG rfl rfl ok];generalize Ev.put _ _ _ _=w1 at*;have l:Gx (memS h) w T w1 T1:=(Gx.bL R Q).trans t;have e:=sT t.rel u;have X:an (hp w1 b) (0+0)=some (ptr h.mb):=by rw[e];rfl
   have k2:an (hp w1 b) (0+2)=some (bN s.dV):=by rw[e];rfl
   have Y:an (hp w1 b) (0+3)=some (bN s.n):=by rw[e];rfl
   have j:∀(w2:World) (T2:dH),Gx (memS h) w T w2 T2->dG T2 h c (qQ s d (i+1))->P95_1 (ptr b) (bN i) w2 λv w'=>v= .tuple #[]/\∃T',Gx (memS h) w T w' T'/\dG T' h c (qQ s d s.n):=λw2 T2 x y=>by
    apply L95_1_ok;simp only[L95_1,aj,e5,ac];refine Part.mono (l_fill sT d hl hn z f (i+1) dB x.rel y) λv w' hq=>?_;obtain⟨h1,T',h2,h3⟩:=hq;exact⟨h1,T',x.trans h2,h3⟩
   simp only[ptr]at j X;by_cases Z:i+1=s.n
   ·have G:((i:Int)==(s.n:Int)-1)=true:=by rw[show(i:Int)=(s.n:Int)-1 by omega];exact beq_self_eq_true _
    have o:=(ad.refl [] w1).drew;have p:=t.rel.aF o;obtain⟨g',k',n',I,q,a3,a1,a4,J,r⟩:=u.mem p (by rw[cE];omega);obtain⟨K,a5⟩:=r (s.dV+i) (by rw[cE];omega);have L:an (hp w1 h.mb) (0+0)=some (.slice (some ⟨g',0,none⟩) ((qQ s d i).set (s.dV+i) (((i+2)%(s.n+1):Nat):Int)).length k'):=by rw[show hp w1 h.mb=_ from q];rfl
    simp only[ae,ac,jO,jC,X,k2,Y,L,K,U,W,G,aH,aj,zS];obtain⟨M,T2,x,y⟩:=u.set p I J (a:=s.dV+i) (by rw[cE];omega) 0;rw[nG rfl rfl M];rw[List.set_set]at y;refine j _ T2 (l.trans ((Gx.bL t.rel o).trans x)) ?_;rw[qD,bU Z];exact y
   ·have G:((i:Int)==(s.n:Int)-1)=false:=cH dB;simp only[ac,Y,W,G,aH,zS];refine j _ T1 l ?_;rw[qD,bV Z];exact u
  ·have hz:¬(i:Int)<s.n:=dB;have ei:i=s.n:=dB;simp only[L95_0,ptr,ae,ac,ph,ag,O,hz,aG,decide_false,zS];subst ei;exact⟨by first|rfl|trivial,T,Gx.refl R,H⟩
theorem fillV_eq(s:iF)(m:bd):fillV s m=(List.range s.n).foldl (λm i=>m.set (s.dV+i) (if i+1=s.n then 0 else(((i+2)%(s.n+1):Nat):Int))) (m.set s.head 1):=rfl
theorem c_Fill{s:iF}(sT:∀{T:dH} {m:bd},dG T h c m->T b=some (.st 0 156 ((og h.mb s).map fF.v)))(R:Rel w T)(H:dG T h c m)(G:s.dV+s.n<=m.length)(t:s.n<=100000)(e:s.dV<=100000000)(I:s.head<m.length):
  aa prog 95 [ptr b] w λv w'=>v= .tuple #[]/\∃T',Gx (memS h) w T w' T'/\dG T' h c (fillV s m):=by
 apply F95_ok;have f:ai prog (Instr.build 209 #[(0,bN 0)])=some (.agg (hdA 0 0)):=bd_209_0;simp only[F95,f,ac];refine(c_PutHead 0 0).mono ?_;rintro _ w1 ⟨u,rfl,p⟩;have q:=p.trans (ad.refl [] w1).drew;have r:=R.aF q;have hb:hp w1 b=some (.cells (og h.mb s).toArray 156):=(R.aF p).kK (sT H);have f0:an (hp w1 b) (0+0)=some (ptr h.mb):=by rw[hb];rfl
 have f1:an (hp w1 b) (0+1)=some (bN s.head):=by rw[hb];rfl
 obtain⟨g,k,n,i,j,J,x,K,y,l⟩:=H.mem r dB;obtain⟨z,L⟩:=l s.head dB;have o:an (hp w1 h.mb) (0+0)=some (.slice (some ⟨g,0,none⟩) m.length k):=by rw[show hp w1 h.mb=_ from j];rfl
 simp only[ptr,kG,kH,ae,ac,kU,ry,jO,ag,bx,jC,f0,f1,o,z,zS];obtain⟨ok,T2,A,B⟩:=H.set r i y (a:=s.head) dB 1;rw[show putHd 0 0=1 from rfl,nG rfl rfl ok];generalize Ev.put _ _ _ _=w2 at*;have d:Gx (memS h) w T w2 T2:=(Gx.bL R q).trans A;refine Part.mono (l_fill (s:=s) (λR H=>R.kK (sT H)) (m.set s.head 1) (by rw[cE];omega) t e s.n 0 dB d.rel B) λv w' C=>?_;obtain⟨D,T',E,F⟩:=C;exact⟨D,T',d.trans E,F⟩
end
section
variable{w w0 w1 w2 w':World}{T T0 T1 T2 T':dH}{h:Hm}{c:cx}{m m':bd}{o o' b sb lb q kb wb mb:Nat}{v2 v3 v4:Value}
def wbA(c:cx)(mb:Nat)(v2 v3 v4:Value):Array Value:=(dN c++ [ptr mb,v2,v3,v4]).toArray
theorem wbA_size(c:cx)(mb:Nat)(v2 v3 v4:Value):(wbA c mb v2 v3 v4).size=10:=rfl
structure NwS(w0:World)(T0:dH)(c:cx)(mb wb q:Nat)(v2 v3 v4:Value)(w:World)(T:dH):Prop where
 g:Gx (λ_=>False) w0 T0 w T
 m:T mb=some (memN (List.replicate (kI c) 0) 0)
 nd:T wb=some (.st 0 153 ((wbA c mb v2 v3 v4).toList.map fF.v))
 nw:w0.heap.size<=wb/\w0.heap.size<=mb
 q:hp w q=some (.cells (dN c).toArray 25)/\T q=none
theorem NwS.aF(S:NwS w0 T0 c mb wb q v2 v3 v4 w T)(a:ad [] w w'):NwS w0 T0 c mb wb q v2 v3 v4 w' T:=
 ⟨S.g.trans (Gx.bL S.g.rel a),S.m,S.nd,S.nw,a.at S.q.1 (by simp),S.q.2⟩
theorem NwS.box(S:NwS w0 T0 c mb wb q v2 v3 v4 w T)(e:TypeId)(vs:List Value):NwS w0 T0 c mb wb q v2 v3 v4 (w.alloc (.cells vs.toArray e)) (ig T w.heap.size (.st 0 e (vs.map fF.v)))  :=by
 have g:=Gx.pR (S:=λ_=>False) S.g.rel 0 e vs;exact⟨S.g.trans g,g.off _ _ S.m (λh=>h),g.off _ _ S.nd (λh=>h),S.nw,g.loc S.q.1 S.q.2⟩
theorem NwS.set{u2 u3 u4:Value}(S:NwS w0 T0 c mb wb q v2 v3 v4 w T)(b:Rel w0 T0)(g:Gx (λk=>k=wb) w T w' T')(hT:T' wb=some (.st 0 153 ((wbA c mb u2 u3 u4).toList.map fF.v))):NwS w0 T0 c mb wb q u2 u3 u4 w' T':=
 ⟨S.g.then g λk e a d=>(by rw[d,b.fresh S.nw.1]at a;cases a),g.off _ _ S.m (ay S.m S.nd dC),hT,S.nw,g.loc S.q.1 S.q.2⟩
theorem c_r11New(N:gG c)(R:Rel w T):aa prog 55 [.agg (dN c).toArray] w λv w'=>∃h T',v=ptr h.wb/\Gx (λ_=>False) w T w' T'/\dG T' h c (qC c):=by
 apply F55_ok;rw[F55];have b2:=N.b2;have b4:=N.b4;have b1:=N.b1;have Q:=lenM_le N;simp only[ak,aq];generalize U:World.alloc _ _=w1;have V:ad [] w w1:=by rw[<- U];exact(ad.refl _ _).alloc _
 have q1:hp w1 w.heap.size=some (.cells (dN c).toArray 25):=by rw[<- U,af,bU rfl]
 have n1:T w.heap.size=none:=R.fresh (cy _);clear U;generalize w.heap.size=q at*;simp only[fM q1,ac];refine(c_Len1 N).mono ?_;rintro _ w2 ⟨rfl,L⟩;refine(c_r5New (R.aF (V.trans L)) (kI c) Q).mono ?_;rintro _ C ⟨mb,T3,rfl,W,X,Y⟩;have D:=(Gx.bL (S:=λ_=>False) R (V.trans L)).trans W;have Z:=W.loc (L.at q1 (by simp)) n1;have a:ai prog (Instr.build 153 #[(0,.agg (dN c).toArray),(1,ptr mb)])=some (.agg (wbA c mb (.pointer none) (.pointer none) (.pointer none))):=bd_153_0_1;simp only[fM Z.1,ac,a,aq];have g4:=Gx.pR (S:=λ_=>False) W.rel 0 153 (wbA c mb (.pointer none) (.pointer none) (.pointer none)).toList;have S4:NwS w T c mb C.heap.size q (.pointer none) (.pointer none) (.pointer none) (C.alloc (.cells (wbA c mb (.pointer none) (.pointer none) (.pointer none)) 153)) _:=
  ⟨D.trans g4,g4.off _ _ Y (λh=>h),ax,⟨D.size,cU (V.trans L).size X⟩,g4.loc Z.1 Z.2⟩
 generalize C.alloc (.cells (wbA c mb (.pointer none) (.pointer none) (.pointer none)) 153)=w4 at*;generalize ig T3 C.heap.size _=T4 at*;generalize C.heap.size=wb at*;have b:∀{d:World} {e:dH} {u2 u3 u4:Value},NwS w T c mb wb q u2 u3 u4 d e->gi prog 25 (bS q) d=some (.agg (dN c).toArray)/\an (hp d q) (0+0)=some (bN (cW c))/\an (hp d q) (0+1)=some (bN (cC c))/\an (hp d q) (0+3)=some (bN (cS c)):=λS=>by
  obtain⟨M,O,l2,P⟩:=cfl S.q.1;rw[N.n1]at M;rw[N.n2]at O;rw[N.n4]at P;exact⟨fM S.q.1,M,O,P⟩
 have f2:∀(d:World) (e:dH) (f sb B:Nat),NwS w T c mb wb q (ptr f) (ptr sb) (ptr B) d e->e f=some (.st 0 156 ((og mb (bB c)).map fF.v))->e sb=some (.st 0 156 ((og mb (dF c)).map fF.v))->e B=some (.st 0 158 ([ptr mb,bN 2,bN (fH c 0),bN (cW c)].map fF.v))->
   P55_2 (ptr wb) d λv w'=>∃h T',v=ptr h.wb/\Gx (λ_=>False) w T w' T'/\dG T' h c (qC c):=by
  intro d e f sb B o l y a1;have H5:dG e ⟨wb,f,sb,B,mb⟩ c (List.replicate (kI c) 0):=⟨o.nd,l,y,a1,0,o.m⟩
  apply L55_2_ok;obtain⟨_,_,k7,k8,_⟩:=mR o.g.rel H5;simp only[L55_2,ptr,ae,ac,ru,fa_153_3,lU,k7];have lp:aLk c 0+cC c<=kI c:=by unfold kI aLk;omega
  have ls:aSl c 0+cS c<=kI c:=by unfold kI aSl;omega
  refine(c_Fill (h:=⟨wb,f,sb,B,mb⟩) (c:=c) (s:=bB c) (λH=>H.pT) o.g.rel H5 (by rw[dz];exact lp) (by show cC c<=100000;omega) (by show aLk c 0<=100000000;omega) (by rw[dz];show 0<kI c;omega)).mono ?_;rintro _ p ⟨_,T6,g6,H6⟩;have E:(fillV (bB c) (List.replicate (kI c) 0)).length=kI c:=by
   rw[fillV_eq,show(List.range (bB c).n).foldl _ _=qQ (bB c) ((List.replicate (kI c) 0).set (bB c).head 1) (bB c).n from rfl,fillN_len,cE,dz]
  obtain⟨_,_,_,a2,_⟩:=mR g6.rel H6;simp only[ptr,ac,a2];refine(c_Fill (h:=⟨wb,f,sb,B,mb⟩) (c:=c) (s:=dF c) (λH=>H.sT) g6.rel H6 (by rw[E];exact ls) (by show cS c<=100000;omega) (by show aSl c 0<=100000000;omega) (by rw[E];show 1<kI c;unfold kI;omega)).mono ?_;rintro _ w7 ⟨_,T7,z,H7⟩;refine⟨⟨wb,f,sb,B,mb⟩,T7,rfl,o.g.then (g6.trans z) λk nd h1 h2=>?_,H7⟩;have h2:k=mb:=h2;rw[h2,R.fresh o.nw.2]at h1;cases h1
 have f1:∀(d:World) (e:dH) (f sb:Nat),NwS w T c mb wb q (ptr f) (ptr sb) (.pointer none) d e->e f=some (.st 0 156 ((og mb (bB c)).map fF.v))->e sb=some (.st 0 156 ((og mb (dF c)).map fF.v))->
   P55_1 (ptr q) (ptr mb) (ptr wb) d λv w'=>∃h T',v=ptr h.wb/\Gx (λ_=>False) w T w' T'/\dG T' h c (qC c):=by
  intro d e f sb o l y;apply L55_1_ok;have F:=(ad.refl [] d).drew;have r:=o.aF F;obtain⟨lc,M,_,_⟩:=b o;simp only[L55_1,ptr,ae,ac,fq,ag,(b r).1,M,zS];refine⟨?_,?_⟩;all_goals
   refine(c_Pin1 (i:=0) N dB).mono ?_;rintro _ p ⟨rfl,G⟩;have x:=r.aF G;have a:ai prog (Instr.build 158 #[(0,ptr mb),(1,bN 2),(2,bN (fH c 0)),(3,bN (cW c))])=some (.agg #[ptr mb,bN 2,bN (fH c 0),bN (cW c)]):=bd_158_0_1_2_3;simp only[ptr]at a;simp only[ac,fa_153_4,(b x).2.1,a,ak,aq];have j:=x.box 158 [ptr mb,bN 2,bN (fH c 0),bN (cW c)];have A:(ig e p.heap.size (.st 0 158 ([ptr mb,bN 2,bN (fH c 0),bN (cW c)].map fF.v))) p.heap.size=_:=ax;have z:=Gx.pR (S:=λ_=>False) x.g.rel 0 158 [ptr mb,bN 2,bN (fH c 0),bN (cW c)];refine aA (A':=wbA c mb (ptr f) (ptr sb) (ptr p.heap.size)) j.g.rel j.nd sz_151 ⟨rfl,rfl⟩ rfl (by rw[wbA_size];omega) λI J t u _ _=>?_;exact f2 I J f sb _ (j.set R t u) (t.off _ _ (z.off _ _ l (λh=>h)) (ay (z.off _ _ l (λh=>h)) j.nd dC)) (t.off _ _ (z.off _ _ y (λh=>h)) (ay (z.off _ _ y (λh=>h)) j.nd dC)) (t.off _ _ A (ay A j.nd dC))
 have f0:∀(d:World) (e:dH) (f:Nat),NwS w T c mb wb q (ptr f) (.pointer none) (.pointer none) d e->e f=some (.st 0 156 ((og mb (bB c)).map fF.v))->
   P55_0 (ptr q) (ptr mb) (ptr wb) d λv w'=>∃h T',v=ptr h.wb/\Gx (λ_=>False) w T w' T'/\dG T' h c (qC c):=by
  intro d e f o l;apply L55_0_ok;have F:=(ad.refl [] d).drew;have r:=o.aF F;obtain⟨lc,_,_,P⟩:=b o;simp only[L55_0,ptr,ae,ac,gj,ag,(b r).1,P,zS];refine⟨?_,?_⟩;all_goals
   refine(c_Slot1 (i:=0) N dB).mono ?_;rintro _ p ⟨rfl,G⟩;have x:=r.aF G;have a:ai prog (Instr.build 156 #[(0,ptr mb),(1,bN 1),(2,bN (aSl c 0)),(3,bN (cS c))])=some (.agg (og mb (dF c)).toArray):=rJ;simp only[ptr]at a;simp only[ac,fa_153_3,(b x).2.2.2,a,ak,aq];have j:=x.box 156 (og mb (dF c));have A:(ig e p.heap.size (.st 0 156 ((og mb (dF c)).map fF.v))) p.heap.size=_:=ax;have z:=Gx.pR (S:=λ_=>False) x.g.rel 0 156 (og mb (dF c));refine aA (A':=wbA c mb (ptr f) (ptr p.heap.size) (.pointer none)) j.g.rel j.nd sz_150 ⟨rfl,rfl⟩ rfl (by rw[wbA_size];omega) λI J t u _ _=>?_;exact f1 I J f _ (j.set R t u) (t.off _ _ (z.off _ _ l (λh=>h)) (ay (z.off _ _ l (λh=>h)) j.nd dC)) (t.off _ _ A (ay A j.nd dC))
 have F:=(ad.refl [] w4).drew;have K:=S4.aF F;obtain⟨lc,_,O,_⟩:=b S4;simp only[ptr,ae,ac,jo,ag,(b K).1,O,zS];refine⟨?_,?_⟩;all_goals
  refine(c_Link (i:=0) N dB).mono ?_;rintro _ p ⟨rfl,G⟩;have x:=K.aF G;have a:ai prog (Instr.build 156 #[(0,ptr mb),(1,bN 0),(2,bN (aLk c 0)),(3,bN (cC c))])=some (.agg (og mb (bB c)).toArray):=rJ;simp only[ptr]at a;simp only[ac,ru,(b x).2.2.1,a,aq];have j:=x.box 156 (og mb (bB c));have A:(ig T4 p.heap.size (.st 0 156 ((og mb (bB c)).map fF.v))) p.heap.size=_:=ax;refine aA (A':=wbA c mb (ptr p.heap.size) (.pointer none) (.pointer none)) j.g.rel j.nd sz_150 ⟨rfl,rfl⟩ rfl (by rw[wbA_size];omega) λI J t u _ _=>?_;exact f0 I J _ (j.set R t u) (t.off _ _ A (ay A j.nd dC))
end
theorem tY{α β:Type}{f:α->List β}{z:Nat}(h:∀x,(f x).length=z){k:Nat}{xs:List β}(d:k+xs.length<=z){x x':α}(c:f x'=(f x).take k++xs++(f x).drop (k+xs.length)):∀(L:List α) (i:Nat),L[i]? =some x->(L.flatMap f).take (i*z+k)++xs++(L.flatMap f).drop (i*z+k+xs.length)=(L.set i x').flatMap f
 | [],i,a=>by simp at a
 |y::b,0,a=>by
  simp at a;subst a;rw[dj,Nat.zero_mul,cM,List.set_cons_zero,dj,c,List.take_append_of_le_length (by rw[h];omega),List.drop_append_of_le_length (by rw[h];omega)];simp only[cJ]
 |y::b,i+1,a=>by
  have a:b[i]? =some x:=by simpa using a
  have e:=tY h d c b i a;have g:(i+1)*z+k=(f y).length+(i*z+k):=by rw[h,Nat.add_mul,Nat.one_mul];omega
  rw[dj,g,Nat.add_assoc (f y).length,List.take_length_add_append,List.drop_length_add_append,List.set_cons_succ,dj,<-e];simp only[cJ]
section
variable{w w0 w1 w2 w':World}{T T0 T1 T2 T':dH}{h:Hm}{c:cx}{m m':bd}{o o' b sb lb q kb wb mb ab:Nat}
theorem Ev.Gx.grow2{e:TypeId}{cs n:List fF}{vs p:List Value}(R:Rel w T)(hT:T b=some (.st o e cs))(N:mP w T b e cs vs){k1 k2:Nat}(m:k1≠k2){L u1 v2 u2:Value}{G H:TypeId}{I n1 r J n2 s:Nat}{M g O i:List Value}
  (z:cs[k1]? =some (.gr G I n1 M)) (P:vs[k1]? =some L) (t:cs[k2]? =some (.gr H J n2 O)) (A:vs[k2]? =some v2)
  (B:bl (λq=>L.ownBlock=some q) w w1) (Q:hI w L u1) (S:w1.ownsRow 0 G I u1 r g)
  (c:bl (λq=>v2.ownBlock=some q) w1 w2) (C:hI w1 v2 u2) (U:w2.ownsRow 0 H J u2 s i)
  (u:n=(cs.set k1 (.gr G I r g)).set k2 (.gr H J s i)) (x:p=(vs.set k1 u1).set k2 u2):
  hp w2 b=hp w b/\∃T',T' b=some (.st o e n)/\Gx (λq=>q=b) w T (Ev.put w2 b p.toArray e) T':=by
 have len:=N.len;have l1:=(bY.1 z).1;have l2:=(bY.1 t).1;obtain⟨b1,T1,D,V⟩:=Gx.grow (vs':=vs.set k1 u1) (cs':=cs.set k1 (.gr G I r g)) R hT N z P B Q S (by simp[len]) (by simp[l1]) (by rw[List.getElem?_set_self dB]) λj W v K E F=>by
  rw[List.getElem?_set_ne (λh=>K h.symm)]at E F;exact N.each j W v E F
 have X:b<w.heap.size:=R.lt b _ hT;have d:b<w1.heap.size:=de X B.size;have y:∀q,v2.ownBlock=some q->T q=some (.own b k2):=(N.each k2 _ v2 t A).2;have f:∀q,v2.ownBlock=some q->q≠b:=λq l=>lD hT (y q l);have Y:∀q,u2.ownBlock=some q->q≠b:=λq l=>by
  rcases C q l with h|h
  ·exact f q h
  ·omega
 obtain⟨Z,N1⟩:=V.rel.node b _ _ _ D;have ex:Z=vs.set k1 u1:=by
  have a:=N1.hb;rw[ar d]at a;have a:=Option.some.inj a;injection a with a1 a2
  have:=congrArg Array.toList a1;simpa using this.symm
 subst ex;have a3:bl (λq=>v2.ownBlock=some q) (Ev.put w1 b (vs.set k1 u1).toArray e) (Ev.put w2 b (vs.set k1 u1).toArray e):=by
  have p1:=bl.put w1 b (vs.set k1 u1).toArray e;have p2:=bl.put w2 b (vs.set k1 u1).toArray e;refine⟨p2.os.trans (c.os.trans p1.os.symm),p2.tape.trans (c.tape.trans p1.tape.symm),p2.output.trans (c.output.trans p1.output.symm),by rw[nt,nt];exact c.size,λq l hn=>?_⟩;rw[nt]at l;by_cases h:q=b
  ·subst h;exact(ar (de d c.size) _ _).trans (ar d _ _).symm
  ·exact(bj h _ _).trans ((c.block q l hn).trans (bj h _ _).symm)
 have a4:(Ev.put w2 b (vs.set k1 u1).toArray e).ownsRow 0 H J u2 s i:=(bl.put w2 b (vs.set k1 u1).toArray e).row U λq l=>Y q l;have a5:hI (Ev.put w1 b (vs.set k1 u1).toArray e) v2 u2:=λq l=>by rw[nt];exact C q l
 obtain⟨b2,T2,a6,g2⟩:=Gx.grow (vs':=p) (cs':=n) V.rel D N1 (k:=k2) (by rw[List.getElem?_set_ne m];exact t) (by rw[List.getElem?_set_ne m];exact A) a3 a5 a4 (by rw[x,u];simp[len]) (by rw[u];simp[l2]) (by rw[x];rw[List.getElem?_set_self (by simp;omega)]) λj W v K E F=>by
  rw[u,List.getElem?_set_ne (λh=>K h.symm)]at E;rw[x,List.getElem?_set_ne (λh=>K h.symm)]at F;exact N1.each j W v E F
 rw[m6]at g2;refine⟨?_,T2,a6,V.trans g2⟩;rw[<- b1];exact c.block b d λh=>f b h rfl
def arV(c:cx)(wb:Nat)(kv ov av pv lv hv:Value)(steps:Int):List Value:=dN c++ [ptr wb,kv,ov,av,pv,lv,hv,bN steps]
structure ArC where
 ks:List Value
 ops:List Value
 at':List Int
 op:List Int
 l:List di
 h:List eN
 steps:Int
def qU(c:cx)(wb:Nat)(a:ArC):List fF:=(dN c).map fF.v++ [.v (ptr wb),.gr 118 1 a.ks.length a.ks,.gr 116 1 a.ops.length a.ops,.gr 3 1 a.at'.length (ints a.at'),.gr 3 1 a.op.length (ints a.op),.gr 39 20 a.l.length (a.l.flatMap jS),.gr 32 5 a.h.length (a.h.flatMap ba),.v (bN a.steps)]
def tZ(c:cx)(wb:Nat)(a:ArC):Nod:= .st 0 78 (qU c wb a)
structure pW(w:World)(T:dH)(ab:Nat)(c:cx)(wb:Nat)(a:ArC)(kv ov av pv lv hv:Value):Prop where
 n:mP w T ab 78 (qU c wb a) (arV c wb kv ov av pv lv hv a.steps)
 rk:w.ownsRow 0 118 1 kv a.ks.length a.ks
 ro:w.ownsRow 0 116 1 ov a.ops.length a.ops
 ra:w.ownsRow 0 3 1 av a.at'.length (ints a.at')
 rp:w.ownsRow 0 3 1 pv a.op.length (ints a.op)
 rl:w.ownsRow 0 39 20 lv a.l.length (a.l.flatMap jS)
 rh:w.ownsRow 0 32 5 hv a.h.length (a.h.flatMap ba)
theorem ar_f{a:ArC}(R:Rel w T)(hT:T ab=some (tZ c wb a)):∃kv ov av pv lv hv,pW w T ab c wb a kv ov av pv lv hv:=by
 obtain⟨vs,N⟩:=R.node _ _ _ _ hT;have len:=N.len;have b:=N.each;match vs,len,b,N with
 | [v0,v1,v2,v3,v4,v5,v6,v7,v8,v9,v10,v11,v12,v13],_,b,N=>
  have e:v0=_:=b 0 _ v0 rfl rfl;have f:v1=_:=b 1 _ v1 rfl rfl;have g:v2=_:=b 2 _ v2 rfl rfl;have i:v3=_:=b 3 _ v3 rfl rfl;have j:v4=_:=b 4 _ v4 rfl rfl;have k:v5=_:=b 5 _ v5 rfl rfl;have l:v6=_:=b 6 _ v6 rfl rfl;have d:v13=_:=b 13 _ v13 rfl rfl;subst e f g i j k l d;exact⟨v7,v8,v9,v10,v11,v12,N,(b 7 _ _ rfl rfl).1,(b 8 _ _ rfl rfl).1,(b 9 _ _ rfl rfl).1,(b 10 _ _ rfl rfl).1,(b 11 _ _ rfl rfl).1,(b 12 _ _ rfl rfl).1⟩
theorem pW.ld{a:ArC}{kv ov av pv lv hv:Value}(F:pW w T ab c wb a kv ov av pv lv hv):an (hp w ab) (0+6)=some (ptr wb)/\an (hp w ab) (0+7)=some kv/\an (hp w ab) (0+8)=some ov/\an (hp w ab) (0+9)=some av/\an (hp w ab) (0+10)=some pv/\an (hp w ab) (0+11)=some lv/\an (hp w ab) (0+12)=some hv/\an (hp w ab) (0+13)=some (bN a.steps)/\an (hp w ab) (0+0+0)=some (bN c.1):=by
 rw[F.n.hb];exact⟨rfl,rfl,rfl,rfl,rfl,rfl,rfl,rfl,rfl⟩
theorem ar_steps{a:ArC}{kv ov av pv lv hv:Value}(R:Rel w T)(hT:T ab=some (tZ c wb a))(F:pW w T ab c wb a kv ov av pv lv hv)(x:Int){L:World->Prop}(g:∀w' T',Gx (λq=>q=ab) w T w' T'->T' ab=some (tZ c wb {a with steps:=x})->L w'):ck prog (Instr.storeAt 3 (.pointer (some ⟨ab,0+13,none⟩)) (bN x)) w L:=by
 rw[gB rfl rfl (by rw[F.n.hb,bq];exact cr (by show 0+13+1<=14;omega)),F.n.hb,aB,au];refine g _ _ (Gx.put (vs':=arV c wb kv ov av pv lv hv x) (cs':=qU c wb {a with steps:=x}) R hT rfl λj i v d e=>?_) ax;have b:=(bY.1 d).1;by_cases f:j=13
 ·subst f;cases d;cases e;rfl
 ·have b:j<13:=by have:(qU c wb {a with steps:=x}).length=14:=rfl;omega
  have k:(qU c wb {a with steps:=x})[j]? =(qU c wb a)[j]? :=by
   have:∀j,j<13->(qU c wb {a with steps:=x})[j]? =(qU c wb a)[j]? :=by intro j b;match j,b with
    |0,_=>rfl|1,_=>rfl|2,_=>rfl|3,_=>rfl|4,_=>rfl|5,_=>rfl|6,_=>rfl|7,_=>rfl|8,_=>rfl|9,_=>rfl|10,_=>rfl|11,_=>rfl|12,_=>rfl
   exact this j b
  have l:(arV c wb kv ov av pv lv hv x)[j]? =(arV c wb kv ov av pv lv hv a.steps)[j]? :=by
   have:∀j,j<13->(arV c wb kv ov av pv lv hv x)[j]? =(arV c wb kv ov av pv lv hv a.steps)[j]? :=by intro j b;match j,b with
    |0,_=>rfl|1,_=>rfl|2,_=>rfl|3,_=>rfl|4,_=>rfl|5,_=>rfl|6,_=>rfl|7,_=>rfl|8,_=>rfl|9,_=>rfl|10,_=>rfl|11,_=>rfl|12,_=>rfl
   exact this j b
  rw[k]at d;rw[l]at e;exact F.n.each j i v d e
theorem pW.of{a:ArC}{kv ov av pv lv hv:Value}(R:Rel w T)(hT:T ab=some (tZ c wb a))(hb:hp w ab=some (.cells (arV c wb kv ov av pv lv hv a.steps).toArray 78)):pW w T ab c wb a kv ov av pv lv hv:=by
 obtain⟨b,d,f,g,i,j,F⟩:=ar_f R hT;have e:=F.n.hb;rw[hb]at e;have e:=Option.some.inj e;injection e with k l
 have e:=congrArg Array.toList k;have e:arV c wb kv ov av pv lv hv a.steps=arV c wb b d f g i j a.steps:=by simpa using e
 simp only[arV,List.append_cancel_left_eq,List.cons.injEq,and_true,true_and]at e;obtain⟨rfl,rfl,rfl,rfl,rfl,rfl⟩:=e;exact F
section
variable{a:ArC}{kv ov av pv lv hv:Value}
theorem ints_len(l:List Int):(ints l).length=l.length:=by simp[ints]
theorem ints_set(l:List Int){i:Nat}(a:i<l.length)(x:Int):(ints l).take i++ [bN x]++(ints l).drop (i+ [Value.int .i64 x].length)=ints (l.set i x):=by
 rw[show [Value.int .i64 x].length=1 from rfl,set_eq _ _ _ (by rw[ints_len];exact a),ints,ints,List.map_set]
theorem ints_get(l:List Int){i:Nat}(a:i<l.length):(ints l)[i]? =some (bN (l.getD i 0)):=by
 rw[ints,cN,cu,bX a];rfl
theorem ar_at(R:Rel w T)(hT:T ab=some (tZ c wb a))(F:pW w T ab c wb a kv ov av pv lv hv){i:Nat}(e:i<a.at'.length):∃g,ai prog (Instr.indexAt 22 av (bN i))=some (.pointer (some ⟨g,i,none⟩))/\an (hp w g) i=some (bN (a.at'.getD i 0))/\
  ∀(x:Int) (L:World->Prop),(∀ w' T',Gx (λq=>q=ab) w T w' T'->T' ab=some (tZ c wb {a with at':=a.at'.set i x})->pW w' T' ab c wb {a with at':=a.at'.set i x} kv ov av pv lv hv->L w')->ck prog (Instr.storeAt 3 (.pointer (some ⟨g,i,none⟩)) (bN x)) w L:=by
 obtain⟨g,k,rfl,hb,f,m,_,_⟩:=kQ (P:=prog) (t:=22) (j:= .i64) (i:=(i:Int)) F.ra Tryz.underlying22 aE dB dB;rw[cj,dr]at f;have l:=m 0 dB;rw[cj,dr,Nat.add_zero,ints_get _ e]at l;refine⟨g,f,l,λx L o=>?_⟩;obtain⟨r,s,b⟩:=Gx.rowset (xs:= [bN x]) R hT F.n (k:=9) (e':=3) (z:=1) rfl rfl (p:=g) (i:=i) rfl (by simp;omega);rw[ints_set _ e]at b;have u:(qU c wb a).set 9 (.gr 3 1 a.at'.length (ints (a.at'.set i x)))=qU c wb {a with at':=a.at'.set i x}:=by
  simp only[qU,cE];rfl
 rw[u]at b;rw[gB rfl rfl r];have d:hp (Ev.put w g ((dL (hp w g)).setIfInBounds i (bN x)) (dM (hp w g))) ab=hp w ab:=bj (λh=>s h.symm) _ _;exact o _ _ b ax (pW.of b.rel ax (by rw[d];exact F.n.hb))
theorem ar_op(R:Rel w T)(hT:T ab=some (tZ c wb a))(F:pW w T ab c wb a kv ov av pv lv hv){i:Nat}(e:i<a.op.length):∃g,ai prog (Instr.indexAt 22 pv (bN i))=some (.pointer (some ⟨g,i,none⟩))/\an (hp w g) i=some (bN (a.op.getD i 0))/\
  ∀(x:Int) (L:World->Prop),(∀ w' T',Gx (λq=>q=ab) w T w' T'->T' ab=some (tZ c wb {a with op:=a.op.set i x})->pW w' T' ab c wb {a with op:=a.op.set i x} kv ov av pv lv hv->L w')->ck prog (Instr.storeAt 3 (.pointer (some ⟨g,i,none⟩)) (bN x)) w L:=by
 obtain⟨g,k,rfl,hb,f,m,_,_⟩:=kQ (P:=prog) (t:=22) (j:= .i64) (i:=(i:Int)) F.rp Tryz.underlying22 aE dB dB;rw[cj,dr]at f;have l:=m 0 dB;rw[cj,dr,Nat.add_zero,ints_get _ e]at l;refine⟨g,f,l,λx L o=>?_⟩;obtain⟨r,s,b⟩:=Gx.rowset (xs:= [bN x]) R hT F.n (k:=10) (e':=3) (z:=1) rfl rfl (p:=g) (i:=i) rfl (by simp;omega);rw[ints_set _ e]at b;have u:(qU c wb a).set 10 (.gr 3 1 a.op.length (ints (a.op.set i x)))=qU c wb {a with op:=a.op.set i x}:=by
  simp only[qU,cE];rfl
 rw[u]at b;rw[gB rfl rfl r];have d:hp (Ev.put w g ((dL (hp w g)).setIfInBounds i (bN x)) (dM (hp w g))) ab=hp w ab:=bj (λh=>s h.symm) _ _;exact o _ _ b ax (pW.of b.rel ax (by rw[d];exact F.n.hb))
theorem ar_sp(R:Rel w T)(hT:T ab=some (tZ c wb a))(F:pW w T ab c wb a kv ov av pv lv hv){i:Nat}{s:di}(m:a.l[i]? =some s):∃g,ai prog (Instr.indexAt 26 lv (bN i))=some (.pointer (some ⟨g,i*20,none⟩))/\(∀ k,k<20->an (hp w g) (i*20+k)=(jS s)[k]?)/\
  ∀(t:TypeId) (x:Value) (n k:Nat) (d:di) (L:World->Prop),(Tryz.prog.info? t).map (·.size)=some n->(x.cells.size=n/\x.cells.toList.all (·.oneCell')=true/\0<n)->k+n<=20->jS d=(jS s).take k++x.cells.toList++(jS s).drop (k+n)->
   (∀ w' T',Gx (λq=>q=ab) w T w' T'->T' ab=some (tZ c wb {a with l:=a.l.set i d})->pW w' T' ab c wb {a with l:=a.l.set i d} kv ov av pv lv hv->L w')->ck prog (Instr.storeAt t (.pointer (some ⟨g,i*20+k,none⟩)) x) w L:=by
 have u:=(bY.1 m).1;obtain⟨g,kk,rfl,hb,r,v,_,y⟩:=kQ (P:=prog) (t:=26) (j:= .i64) (i:=(i:Int)) F.rl Tryz.underlying26 sz_39 dB dB;rw[cj]at r y;refine⟨g,r,λk e=>?_,λt x n k d L A one o B e=>?_⟩
 ·have:=v k e;rw[cj]at this;rw[this];exact bK nf a.l i s m k e
 ·have b:x.cells.toList.length=n:=by rw[Array.length_toList];exact one.1
  obtain⟨C,D,f⟩:=Gx.rowset (xs:=x.cells.toList) R hT F.n (k:=11) (e':=39) (z:=20) rfl rfl (p:=g) (i:=i*20+k) rfl (by rw[b];omega);rw[tY nf (by rw[b];exact o) (by rw[b];exact B) a.l i m]at f;have E:(qU c wb a).set 11 (.gr 39 20 a.l.length ((a.l.set i d).flatMap jS))=qU c wb {a with l:=a.l.set i d}:=by
   simp only[qU,cE];rfl
  rw[E]at f;rw[kq A one.1 one.2.1 one.2.2 (by rw[<- b];exact C)];exact e _ _ f ax (pW.of f.rel ax (by rw[bj (λh=>D h.symm)];exact F.n.hb))
end
end
section
variable{w w0 w1 w2 w':World}{T T0 T1 T2 T':dH}{h:Hm}{c:cx}{m m':bd}{o o' b sb lb q kb wb mb ab:Nat}{a:ArC}{kv ov av pv lv hv:Value}
theorem pW.aF(R:Rel w T)(hT:T ab=some (tZ c wb a))(F:pW w T ab c wb a kv ov av pv lv hv)(b:ad [] w w'):pW w' T ab c wb a kv ov av pv lv hv:=pW.of (R.aF b) hT (b.at F.n.hb (by simp))
theorem qE{e:TypeId}{z n base:Nat}{v:Value}{us:List Value}(h:w.ownsRow base e z v n us):v.cells= #[v]/\v.oneCell'=true:=by
 obtain⟨A,c,rfl,_⟩:=aT h;exact⟨rfl,rfl⟩
theorem ar_grow(R:Rel w T)(hT:T ab=some (tZ c wb a))(F:pW w T ab c wb a kv ov av pv lv hv){k z n f:Nat}{e':TypeId}{us b:List Value}{v v':Value}(g:(qU c wb a)[k]? =some (.gr e' z n us))(d:(arV c wb kv ov av pv lv hv a.steps)[k]? =some v)
  (m:bl (λq=>v.ownBlock=some q) w w1) (o:hI w v v') (p:w1.ownsRow 0 e' z v' f b):
  hp w1 ab=hp w ab/\∃T',T' ab=some (.st 0 78 ((qU c wb a).set k (.gr e' z f b)))/\Gx (λq=>q=ab) w T (Ev.put w1 ab ((arV c wb kv ov av pv lv hv a.steps).set k v').toArray 78) T':=by
 have r:=(bY.1 g).1;have e:=(bY.1 d).1;exact Gx.grow R hT F.n g d m o p (by rw[cE,cE];exact F.n.len) (by rw[List.getElem?_set_self r]) (by rw[List.getElem?_set_self e]) λj s u t i l=>by
  rw[List.getElem?_set_ne (λh=>t h.symm)]at i l;exact F.n.each j s u i l
theorem ar_st(F:pW w T ab c wb a kv ov av pv lv hv)(hb:hp w1 ab=hp w ab){t:TypeId}{k:Nat}{v':Value}(b:(Tryz.prog.info? t).map (·.size)=some 1)(one:v'.cells= #[v']/\v'.oneCell'=true)(e:k<14){L:World->Prop}(d:L (Ev.put w1 ab ((arV c wb kv ov av pv lv hv a.steps).set k v').toArray 78)):ck prog (Instr.storeAt t (.pointer (some ⟨ab,0+k,none⟩)) v') w1 L:=by
 rw[mv b one.1 one.2 (by rw[hb,F.n.hb,bq];exact cr (by show 0+k+1<=14;omega)),hb,F.n.hb,aB,au];rw[cM,List.setIfInBounds_toArray];exact d
theorem ar_addL(R:Rel w T)(hT:T ab=some (tZ c wb a))(F:pW w T ab c wb a kv ov av pv lv hv)(s:di){v':Value}(e:bl (λq=>lv.ownBlock=some q) w w1)(i:hI w lv v')(f:w1.ownsRow 0 39 20 v' (a.l.length+1) (a.l.flatMap jS++jS s)){L:World->Prop}
  (j:∀w' T',Gx (λq=>q=ab) w T w' T'->T' ab=some (tZ c wb {a with l:=a.l++ [s]})->pW w' T' ab c wb {a with l:=a.l++ [s]} kv ov av pv v' hv->L w'):ck prog (Instr.storeAt 26 (.pointer (some ⟨ab,0+11,none⟩)) v') w1 L:=by
 obtain⟨hb,T',b,g⟩:=ar_grow (k:=11) R hT F rfl rfl e i f;have m:(qU c wb a).set 11 (.gr 39 20 (a.l.length+1) (a.l.flatMap jS++jS s))=qU c wb {a with l:=a.l++ [s]}:=by
  simp only[qU,cq,List.length_singleton,List.flatMap_append,dj,List.flatMap_nil,List.append_nil];rfl
 rw[m]at b;refine ar_st F hb sz_26 (qE f) dB (j _ T' g b (pW.of g.rel b ?_));have d:ab<w1.heap.size:=de (R.lt ab _ hT) e.size;exact ar d _ _
theorem ar_addH(R:Rel w T)(hT:T ab=some (tZ c wb a))(F:pW w T ab c wb a kv ov av pv lv hv)(x:eN){v':Value}(e:bl (λq=>hv.ownBlock=some q) w w1)(i:hI w hv v')(f:w1.ownsRow 0 32 5 v' (a.h.length+1) (a.h.flatMap ba++ba x)){L:World->Prop}
  (j:∀w' T',Gx (λq=>q=ab) w T w' T'->T' ab=some (tZ c wb {a with h:=a.h++ [x]})->pW w' T' ab c wb {a with h:=a.h++ [x]} kv ov av pv lv v'->L w'):ck prog (Instr.storeAt 76 (.pointer (some ⟨ab,0+12,none⟩)) v') w1 L:=by
 obtain⟨hb,T',b,g⟩:=ar_grow (k:=12) R hT F rfl rfl e i f;have l:(qU c wb a).set 12 (.gr 32 5 (a.h.length+1) (a.h.flatMap ba++ba x))=qU c wb {a with h:=a.h++ [x]}:=by
  simp only[qU,cq,List.length_singleton,List.flatMap_append,dj,List.flatMap_nil,List.append_nil];rfl
 rw[l]at b;refine ar_st F hb sz_76 (qE f) dB (j _ T' g b (pW.of g.rel b ?_));have d:ab<w1.heap.size:=de (R.lt ab _ hT) e.size;exact ar d _ _
theorem ar_addK(R:Rel w T)(hT:T ab=some (tZ c wb a))(F:pW w T ab c wb a kv ov av pv lv hv)(x:Value){v':Value}(e:bl (λq=>kv.ownBlock=some q) w w1)(i:hI w kv v')(f:w1.ownsRow 0 118 1 v' (a.ks.length+1) (a.ks++ [x])){L:World->Prop}
  (j:∀w' T',Gx (λq=>q=ab) w T w' T'->T' ab=some (tZ c wb {a with ks:=a.ks++ [x]})->pW w' T' ab c wb {a with ks:=a.ks++ [x]} v' ov av pv lv hv->L w'):ck prog (Instr.storeAt 75 (.pointer (some ⟨ab,0+7,none⟩)) v') w1 L:=by
 obtain⟨hb,T',b,g⟩:=ar_grow (k:=7) R hT F rfl rfl e i f;have l:(qU c wb a).set 7 (.gr 118 1 (a.ks.length+1) (a.ks++ [x]))=qU c wb {a with ks:=a.ks++ [x]}:=by
  simp only[qU,cq,List.length_singleton];rfl
 rw[l]at b;refine ar_st F hb sz_75 (qE f) dB (j _ T' g b (pW.of g.rel b ?_));have d:ab<w1.heap.size:=de (R.lt ab _ hT) e.size;exact ar d _ _
theorem ar_addO(R:Rel w T)(hT:T ab=some (tZ c wb a))(F:pW w T ab c wb a kv ov av pv lv hv)(x:Value){v':Value}(e:bl (λq=>ov.ownBlock=some q) w w1)(i:hI w ov v')(f:w1.ownsRow 0 116 1 v' (a.ops.length+1) (a.ops++ [x])){L:World->Prop}
  (j:∀w' T',Gx (λq=>q=ab) w T w' T'->T' ab=some (tZ c wb {a with ops:=a.ops++ [x]})->pW w' T' ab c wb {a with ops:=a.ops++ [x]} kv v' av pv lv hv->L w'):ck prog (Instr.storeAt 70 (.pointer (some ⟨ab,0+8,none⟩)) v') w1 L:=by
 obtain⟨hb,T',b,g⟩:=ar_grow (k:=8) R hT F rfl rfl e i f;have l:(qU c wb a).set 8 (.gr 116 1 (a.ops.length+1) (a.ops++ [x]))=qU c wb {a with ops:=a.ops++ [x]}:=by
  simp only[qU,cq,List.length_singleton];rfl
 rw[l]at b;refine ar_st F hb sz_70 (qE f) dB (j _ T' g b (pW.of g.rel b ?_));have d:ab<w1.heap.size:=de (R.lt ab _ hT) e.size;exact ar d _ _
theorem ints_app(l:List Int)(x:Int):ints l++ [bN x]=ints (l++ [x]):=by simp[ints]
theorem ar_add2(R:Rel w T)(hT:T ab=some (tZ c wb a))(F:pW w T ab c wb a kv ov av pv lv hv)(x y:Int){u1 u2:Value}(f:bl (λq=>av.ownBlock=some q) w w1)(l:hI w av u1)(d:w1.ownsRow 0 3 1 u1 (a.at'.length+1) (ints a.at'++ [bN x]))
  (i:bl (λq=>pv.ownBlock=some q) w1 w2) (m:hI w1 pv u2) (b:w2.ownsRow 0 3 1 u2 (a.op.length+1) (ints a.op++ [bN y])) {L:World->Prop}
  (o:∀w' T',Gx (λq=>q=ab) w T w' T'->T' ab=some (tZ c wb {a with at':=a.at'++ [x],op:=a.op++ [y]})->pW w' T' ab c wb {a with at':=a.at'++ [x],op:=a.op++ [y]} kv ov u1 u2 lv hv->L w'):
  ck prog (Instr.storeAt 22 (.pointer (some ⟨ab,0+9,none⟩)) u1) w2 λp=>ck prog (Instr.storeAt 22 (.pointer (some ⟨ab,0+10,none⟩)) u2) p L:=by
 rw[ints_app]at d b;obtain⟨hb,T',e,g⟩:=Ev.Gx.grow2 (k1:=9) (k2:=10) R hT F.n dC rfl rfl rfl rfl f l d i m b rfl rfl;have r:((qU c wb a).set 9 (.gr 3 1 (a.at'.length+1) (ints (a.at'++ [x])))).set 10 (.gr 3 1 (a.op.length+1) (ints (a.op++ [y])))=qU c wb {a with at':=a.at'++ [x],op:=a.op++ [y]}:=by
  simp only[qU,cq,List.length_singleton];rfl
 rw[r]at e;have j:ab<w2.heap.size:=de (R.lt ab _ hT) (cU f.size i.size);refine ar_st F hb sz_22 (qE d) dB ?_;have k:hp (Ev.put w2 ab ((arV c wb kv ov av pv lv hv a.steps).set 9 u1).toArray 78) ab=some (.cells ((arV c wb kv ov av pv lv hv a.steps).set 9 u1).toArray 78):=ar j _ _;rw[mv sz_22 (qE b).1 (qE b).2 (by rw[k,bq];exact cr (by show 0+10+1<=14;omega)),k,aB,au,m6,List.setIfInBounds_toArray];exact o _ T' g e (pW.of g.rel e (ar j _ _))
end
section
variable{w w0 w1 w2 w':World}{T T0 T1 T2 T':dH}{h:Hm}{c:cx}{m m':bd}{o o' b sb lb q kb wb mb ab:Nat}{a:sQ}{dQ:List Nat}{cm:List Value}{kv ov av pv lv hv:Value}
abbrev arCof(a:sQ)(dQ:List Nat)(cm:List Value):ArC:=⟨dQ.map ptr,cm,a.at',a.open',a.l,a.h,a.steps⟩
structure oj(w:World)(T:dH)(ab:Nat)(h:Hm)(c:cx)(a:sQ)(dQ:List Nat)(cm:List Value):Prop where
 nd:T ab=some (tZ c h.wb (arCof a dQ cm))
 hm:dG T h c a.m
 n1:dQ.length=cW c
 n2:cm.length=cW c
 n3:a.ks.length=cW c
 n4:a.at'.length=cW c
 n5:a.open'.length=cW c
 n6:a.ops.length=cW c
 wk:∀i,i<cW c->tW w T (i+1) (dQ.getD i 0) h c i (a.ks.getD i aI)
 op:∀i,i<cW c->∃A k,cm[i]? =some (.slice A (a.ops.getD i []).length k)/\Lo w T A ((a.ops.getD i []).flatMap cI)
theorem oj.aF(P:oj w T ab h c a dQ cm)(R:Rel w T)(d:ad [] w w'):oj w' T ab h c a dQ cm:=
 ⟨P.nd,P.hm,P.n1,P.n2,P.n3,P.n4,P.n5,P.n6,λi b=>(P.wk i b).si (S:=λ_=>False) (Gx.bL R d) λ_ _ _ _ h=>h,λi b=>by
  obtain⟨A,k,e,f⟩:=P.op i b;exact⟨A,k,e,f.aF d⟩⟩
theorem oj.kbl(P:oj w T ab h c a dQ cm)(F:pW w T ab c h.wb (arCof a dQ cm) kv ov av pv lv hv){i:Nat}(b:i<cW c):∃g,ai prog (Instr.indexAt 75 kv (bN i))=some (.pointer (some ⟨g,i,none⟩))/\an (hp w g) i=some (ptr (dQ.getD i 0)):=by
 have m:i<(dQ.map ptr).length:=by rw[List.length_map,P.n1];exact b
 obtain⟨g,k,rfl,hb,d,f,_,_⟩:=kQ (P:=prog) (t:=75) (j:= .i64) (i:=(i:Int)) F.rk Tryz.underlying75 sz_118 dB (by show(i:Int)<(dQ.map ptr).length;omega);rw[cj,dr]at d;have e:=f 0 dB;rw[cj,dr,Nat.add_zero]at e;have l:i<dQ.length:=by rw[P.n1];exact b
 refine⟨g,d,e.trans ?_⟩;show(dQ.map ptr)[i]? =_;rw[cN,cu,bX l];rfl
theorem oj.ol(P:oj w T ab h c a dQ cm)(F:pW w T ab c h.wb (arCof a dQ cm) kv ov av pv lv hv){i:Nat}(p:i<cW c):∃g A k,ai prog (Instr.indexAt 70 ov (bN i))=some (.pointer (some ⟨g,i,none⟩))/\an (hp w g) i=some (.slice A (a.ops.getD i []).length k)/\
  ∀j (d:j<(a.ops.getD i []).length),∃b o,ai prog (Instr.indexAt 116 (.slice A (a.ops.getD i []).length k) (bN j))=some (.pointer (some ⟨b,o,none⟩))/\gi prog 37 (.pointer (some ⟨b,o,none⟩)) w=some (.agg (cI (a.ops.getD i [])[j]).toArray):=by
 obtain⟨A,e,q,r⟩:=P.op i p;obtain⟨g,k,rfl,hb,f,u,_,_⟩:=kQ (P:=prog) (t:=70) (j:= .i64) (i:=(i:Int)) F.ro underlying70 sz_116 dB (by show(i:Int)<cm.length;rw[P.n2];omega);rw[cj,dr]at f;have l:=u 0 dB;rw[cj,dr,Nat.add_zero]at l;refine⟨g,A,e,f,l.trans q,λj d=>?_⟩;obtain⟨b,o,v,_,m,_⟩:=r.rd.elem (P:=prog) (s:=116) (n:=(a.ops.getD i []).length) (c:=e) (j:= .i64) (i:=(j:Int)) Tryz.underlying116 nC dB (by rw[hU qp];omega) dB dB;rw[cj,jX qp _ _ d]at m;exact⟨b,o,v,by rw[ld_37,m];rfl⟩
theorem aheadN_eq{l:List eu}{i:Nat}(a:i<l.length)(b:jR l[i]=true):nX l i=i:=by rw[nX,dif_pos a,bU b]
theorem aheadN_next{l:List eu}{i:Nat}(a:i<l.length)(b:jR l[i]=false):nX l i=nX l (i+1):=by rw[nX,dif_pos a,bV (by rw[b];decide)]
theorem aheadN_end{l:List eu}{i:Nat}(a:¬i<l.length):nX l i=i:=by rw[nX,dif_neg a]
theorem l_ahead{i:Nat}(n:i<cW c)(t:(a.ops.getD i []).length<=100000):∀(f j:Nat),j+f=(a.ops.getD i []).length+1->∀{w:World},Rel w T->oj w T ab h c a dQ cm->
  P100_0 (ptr ab) (bN i) (bN j) w λv w'=>v=bN (nX (a.ops.getD i []) j:Nat)/\ad [] w w'
 |f,j,m,w,R,P=>by
  apply L100_0_ok;obtain⟨kv,ov,av,pv,lv,hv,F⟩:=ar_f R P.nd;obtain⟨g,A,k,p,q,u⟩:=P.ol F n;have f8:=F.ld.2.2.1;by_cases e:j<(a.ops.getD i []).length
  ·obtain⟨b,o,x,y⟩:=u j e;have d:(j:Int)<(a.ops.getD i []).length:=dB;simp only[L100_0,ptr,ae,ac,sB,ld_70,nE,mm,f8,p,q,x,y,aG,d,decide_true,zS];refine(c_refMay _ w).mono ?_;rintro _ w1 ⟨rfl,l⟩;cases r:jR (a.ops.getD i [])[j]with
   |true=>
    simp only[ac,zS];exact⟨by rw[aheadN_eq e r],l⟩
   |false=>
    have z:IntKind.i64.wrap ((j:Int)+1)=((j+1:Nat):Int):=by rw[ap dB dB];omega
    simp only[ac,aj,z,zS];match f,m with
    |0,m=>omega
    |f+1,m=>
    refine Part.mono (l_ahead n t f (j+1) dB (R.aF l) (P.aF R l)) λv w' s=>?_;exact⟨by rw[aheadN_next e r];exact s.1,l.trans s.2⟩
  ·have d:¬(j:Int)<(a.ops.getD i []).length:=dB;simp only[L100_0,ptr,ae,ac,sB,ld_70,nE,mm,f8,p,q,aG,d,decide_false,zS];exact⟨by rw[aheadN_end e],ad.refl _ _⟩
theorem c_ahead(R:Rel w T)(P:oj w T ab h c a dQ cm){i:Nat}(f:i<cW c)(k:(a.ops.getD i []).length<=100000)(b:0<=a.at'.getD i 0/\a.at'.getD i 0<=(a.ops.getD i []).length):aa prog 100 [ptr ab,bN i] w λv w'=>v=bN (ez a i:Nat)/\ad [] w w':=by
 apply F100_ok;obtain⟨kv,ov,av,pv,lv,hv,F⟩:=ar_f R P.nd;obtain⟨g,l,d,_⟩:=ar_at R P.nd F (i:=i) (by show i<a.at'.length;rw[P.n4];exact f);have m:=F.ld.2.2.2.1;obtain⟨n,j⟩:∃n:Nat,a.at'.getD i 0=n:=⟨(a.at'.getD i 0).toNat,(dy b.1).symm⟩
 have d:an (hp w g) i=some (bN n):=by rw[<- j];exact d
 simp only[F100,ptr,ae,ac,fa_78_4,aK,ag,m,l,d];have e:ez a i=nX (a.ops.getD i []) n:=by rw[ez,j,cj]
 rw[e];exact l_ahead f k ((a.ops.getD i []).length+1-n) n dB R P
theorem oj.busy(P:oj w T ab h c a dQ cm)(R:Rel w T){i:Nat}(d:i<cW c):an (hp w (dQ.getD i 0)) (0+5)=some (.bool (a.ks.getD i aI).busy):=by
 obtain⟨b,sb,lb,hv,p1,p2,p3,p4,p5,p6,p7,hT,_⟩:=P.wk i d;exact(ky R hT).busy
theorem c_Left(R:Rel w T)(P:oj w T ab h c a dQ cm)(N:gG c)(x:Int)(B:∀i,i<cW c->(a.ops.getD i []).length<=100000)(q:∀i,i<cW c->0<=a.at'.getD i 0/\a.at'.getD i 0<=(a.ops.getD i []).length):aa prog 99 [ptr ab,bN x] w λv w'=>v= .bool (gY c a x)/\ad [] w w':=by
 apply F99_ok;obtain⟨kv,ov,av,pv,lv,hv,F⟩:=ar_f R P.nd;obtain⟨M,t,f8,O,C,D,E,G,f0⟩:=F.ld;have b:=(ad.refl [] w).drew;by_cases f:0<=x
 ·have k:x>=0:=f;by_cases j:x<c.1
  ·obtain⟨i,H⟩:∃i:Nat,x=i:=⟨x.toNat,(dy f).symm⟩
   subst H;have Q:=N.n1;have g:i<cW c:=dB;obtain⟨S,ik,lk⟩:=P.kbl F g;have n:=P.busy R g;obtain⟨l,A,kk,io,o,_⟩:=P.ol F g;cases hb:(a.ks.getD i aI).busy with
   |true=>
    rw[hb]at n;have e:gY c a (i:Nat)=true:=by
     unfold gY;rw[cr f,cr j,cj,hb];rfl
    rw[e];simp only[F99,ptr,ae,ac,fa_78_0,mi,aV,fq,ag,az,ld_75,rI,f0,t,ik,lk,n,mM,aG,k,j,decide_true,zS];exact⟨⟨⟨by trivial,b⟩,by trivial,b⟩,by trivial,b⟩
   |false=>
    rw[hb]at n;have e:gY c a (i:Nat)=decide (ez a i<(a.ops.getD i []).length):=by
     unfold gY;rw[cr f,cr j,cj,hb];rfl
    rw[e];simp only[F99,ptr,ae,ac,fa_78_0,mi,sB,aV,fq,ag,az,ld_75,rI,ld_70,nE,mm,f0,t,f8,ik,lk,io,o,n,mM,aG,k,j,decide_true,zS];refine⟨⟨?_,?_⟩,?_⟩;all_goals
     refine(c_ahead (R.aF b) (P.aF R b) g (B i g) (q i g)).mono ?_;rintro _ w1 ⟨rfl,I⟩;have d:=b.trans I;have u:=F.aF R P.nd d;obtain⟨_,_,r,_⟩:=u.ld;have s:an (hp w1 l) i=some (.slice A (a.ops.getD i []).length kk):=by
      obtain⟨U,V,k2,y,W,_⟩:=(P.aF R d).ol u g;rw[io]at y;cases y;have J:an (hp w1 l) i=an (hp w l) i:=by
       obtain⟨p,m⟩:∃p,hp w l=some p:=by
        cases K:hp w l with
        |none=>rw[K]at o;cases o
        |some p=>exact⟨p,rfl⟩
       rw[m,d.at m (by simp)]
      rw[J];exact o
     have L:decide ((ez a i:Int)<(a.ops.getD i []).length)=decide (ez a i<(a.ops.getD i []).length):=by
      by_cases z:ez a i<(a.ops.getD i []).length
      ·rw[cr z,cr dB]
      ·rw[bZ z,bZ dB]
     try simp only[ac,nE,mm,r,io,s,aG,L]
     exact⟨by first|rfl|trivial,d⟩
  ·have e:gY c a x=false:=by
    unfold gY;rw[cr f,bZ j];rfl
   rw[e];simp only[F99,ptr,ae,ac,fa_78_0,fq,ag,f0,mM,aG,k,j,decide_true,decide_false,zS];exact⟨⟨⟨by trivial,b⟩,by trivial,b⟩,by trivial,b⟩
 ·have k:¬x>=0:=f;have e:gY c a x=false:=by
   unfold gY;rw[bZ f];rfl
  rw[e];simp only[F99,ptr,ac,mM,k,decide_false,zS];exact⟨⟨⟨by trivial,b⟩,by trivial,b⟩,by trivial,b⟩
end
section
variable{w w0 w1 w2 w':World}{T T0 T1 T2 T':dH}{h:Hm}{c:cx}{m m':bd}{o o' b sb lb q kb wb mb ab:Nat}{a a':sQ}{dQ:List Nat}{cm opv':List Value}{kv ov av pv lv hv:Value}
theorem dG.offA{cs:List fF}(H:dG T h c m)(g:Gx (λq=>q=ab) w T w' T')(hT:T ab=some (.st 0 78 cs)):dG T' h c m:=by
 obtain⟨n,a⟩:=H.mT;exact⟨g.off _ _ H.wT (ay H.wT hT dC),g.off _ _ H.pT (ay H.pT hT dC),g.off _ _ H.sT (ay H.sT hT dC),g.off _ _ H.eT (ay H.eT hT dC),n,g.off _ _ a (ay a hT dC)⟩
theorem oj.own(P:oj w T ab h c a dQ cm)(g:Gx (λq=>q=ab) w T w' T')(hT:T' ab=some (tZ c h.wb (arCof a' dQ cm)))(j:a'.m=a.m)(d:a'.ks=a.ks)(f:a'.ops=a.ops)(l:a'.at'.length=a.at'.length)(n:a'.open'.length=a.open'.length):oj w' T' ab h c a' dQ cm:=
 ⟨hT,by rw[j];exact P.hm.offA g P.nd,P.n1,P.n2,by rw[d];exact P.n3,by rw[l];exact P.n4,by rw[n];exact P.n5,by rw[f];exact P.n6,λi b=>by
  rw[d];exact(P.wk i b).si g λq e cs o=>tQ o P.nd dB,λi b=>by
  rw[f];obtain⟨A,k,p,r⟩:=P.op i b;exact⟨A,k,p,r.gx g⟩⟩
abbrev arL(a:sQ)(j:Nat)(s:di):sQ:={a with l:=a.l.set j s}
def nt1(k:jE)(steps:Int)(s:di):di:=if s.pt<0/\(0<k.point\/k.busy=false)then{s with pt:=steps}else s
def nt2(k:jE)(steps:Int)(s:di):di:=if s.bk<0/\0<k.back then{s with bk:=steps}else s
def nt3(c:cx)(m:bd)(k:jE)(s:di):di:=if 0<=s.pt then{s with re:=jH c m k}else s
def nt4(k:jE)(steps:Int)(s:di):di:=if k.busy=false then{s with rs:=steps}else s
theorem noteS_eq(c:cx)(m:bd)(k:jE)(steps:Int)(s:di):noteS c m k steps s=nt4 k steps (nt3 c m k (nt2 k steps (nt1 k steps s))):=rfl
def NtQ(w:World)(T:dH)(ab:Nat)(h:Hm)(c:cx)(a:sQ)(dQ:List Nat)(cm:List Value)(j:Nat)(s:di)(v:Value)(w':World):Prop:=∃T',Gx (λq=>q=ab) w T w' T'/\oj w' T' ab h c (arL a j s) dQ cm
theorem NtQ.step{j:Nat}{s:di}{v:Value}(g:Gx (λq=>q=ab) w T w1 T1)(b:NtQ w1 T1 ab h c a dQ cm j s v w'):NtQ w T ab h c a dQ cm j s v w':=by
 obtain⟨T',d,e⟩:=b;exact⟨T',g.trans d,e⟩
theorem arL_own{j:Nat}{s b:di}(P:oj w T ab h c (arL a j s) dQ cm)(g:Gx (λq=>q=ab) w T w' T')(hT:T' ab=some (tZ c h.wb {(arCof (arL a j s) dQ cm)with l:=(arL a j s).l.set j b})):oj w' T' ab h c (arL a j b) dQ cm:=
 P.own g (by rw[hT];simp only[arL,List.set_set]) rfl rfl rfl rfl rfl
theorem ua{j:Nat}{s:di}(b:j<a.l.length):(arCof (arL a j s) dQ cm).l[j]? =some s:=by
 show(a.l.set j s)[j]? =some s;rw[List.getElem?_set_self b]
theorem oj.wf(P:oj w T ab h c a dQ cm)(R:Rel w T){i:Nat}(d:i<cW c):an (hp w (dQ.getD i 0)) (0+5)=some (.bool (a.ks.getD i aI).busy)/\an (hp w (dQ.getD i 0)) (0+18)=some (bN (a.ks.getD i aI).point)/\an (hp w (dQ.getD i 0)) (0+19)=some (bN (a.ks.getD i aI).back):=by
 obtain⟨b,sb,lb,hv,p1,p2,p3,p4,p5,p6,p7,hT,_⟩:=P.wk i d;have hb:hp w (dQ.getD i 0)=_:=R.kK hT;rw[hb];exact⟨rfl,rfl,rfl⟩
theorem l_note2{i j:Nat}(o:i<cW c)(p:j<a.l.length){s:di}(R:Rel w T)(P:oj w T ab h c (arL a j s) dQ cm):
  P103_2 (ptr ab) (ptr (dQ.getD i 0)) (bN j) w (NtQ w T ab h c a dQ cm j (nt4 (a.ks.getD i aI) a.steps s)):=by
 apply L103_2_ok;obtain⟨kv,ov,av,pv,lv,hv,F⟩:=ar_f R P.nd;obtain⟨u,v,f8,x,q,k,r,b,f0⟩:=F.ld;have d:an (hp w (dQ.getD i 0)) (0+5)=some (.bool (a.ks.getD i aI).busy):=(P.wf R o).1;cases hb:(a.ks.getD i aI).busy with
 |true=>
  rw[hb]at d;have e:nt4 (a.ks.getD i aI) a.steps s=s:=by rw[nt4,bV (by rw[hb];decide)]
  rw[e];simp -implicitDefEqProofs (maxSteps:=3000000) only[L103_2,ptr,ae,ac,aV,az,d,zS];exact⟨T,Gx.refl R,P⟩
 |false=>
  rw[hb]at d;have e:nt4 (a.ks.getD i aI) a.steps s={s with rs:=a.steps}:=by rw[nt4,bU hb]
  rw[e];have f:=(ad.refl [] w).drew;have t:=F.aF R P.nd f;obtain⟨g,ix,_,st⟩:=ar_sp (R.aF f) P.nd t (i:=j) (s:=s) (ua p);have b:an (hp w ab) (0+13)=some (bN a.steps):=b;simp -implicitDefEqProofs (maxSteps:=3000000) only[L103_2,ptr,ae,ac,aV,jZ,sD,fa_39_6,az,ag,qI,d,k,b,ix,zS];refine st 3 (bN a.steps) 1 11 {s with rs:=a.steps} _ aE ⟨rfl,rfl,dC⟩ dB rfl λw' T' n m _=>?_;exact⟨T',(Gx.bL R f).trans n,arL_own (P.aF R f) n m⟩
theorem l_note1(N:gG c)(M:ee c a.m){i j:Nat}(p:i<cW c)(n:j<a.l.length)(B:(a.ks.getD i aI).busy=true->McOk c a.m (a.ks.getD i aI) (a.ks.getD i aI).mc)(q:(a.ks.getD i aI).busy=true->(a.ks.getD i aI).point≠0->PtOk c (a.ks.getD i aI) (a.ks.getD i aI).mc){s:di}(R:Rel w T)(P:oj w T ab h c (arL a j s) dQ cm):
  P103_1 (ptr ab) (ptr (dQ.getD i 0)) (bN j) w (NtQ w T ab h c a dQ cm j (nt4 (a.ks.getD i aI) a.steps (nt3 c a.m (a.ks.getD i aI) s))):=by
 apply L103_1_ok (D:=λ_=>False);obtain⟨kv,ov,av,pv,lv,hv,F⟩:=ar_f R P.nd;obtain⟨L,O,f8,Q,C,d,E,G,f0⟩:=F.ld;have r:=(ad.refl [] w).drew;obtain⟨g,ix,rd,_⟩:=ar_sp R P.nd F (i:=j) (s:=s) (ua n);have z:an (hp w g) (j*20+9)=some (bN s.pt):=rd 9 dB;by_cases o:0<=s.pt
 ·have t:s.pt>=0:=o;have e:nt3 c a.m (a.ks.getD i aI) s={s with re:=jH c a.m (a.ks.getD i aI)}:=by rw[nt3,bU o]
  rw[e];simp -implicitDefEqProofs (maxSteps:=3000000) only[L103_1,ptr,ae,ac,jZ,kS,ag,qI,d,ix,z,mM,t,decide_true,pS,not_false_eq_true,true_and,zS];refine(c_Will (k:=a.ks.getD i aI) N (R.aF r) P.hm M ((P.aF R r).wk i p) B q).mono ?_;rintro _ w1 ⟨u,rfl,A⟩;refine⟨bG A,?_⟩;have b:=r.trans A;have H:=F.aF R P.nd b;have I:=R.aF b;obtain⟨S,f,_,st⟩:=ar_sp I P.nd H (i:=j) (s:=s) (ua n);rw[ix]at f;cases f;simp -implicitDefEqProofs (maxSteps:=3000000) only[kG,kH,ae,ac,hH,ix,zS];refine st 35 (.agg (od (jH c a.m (a.ks.getD i aI)))) 8 12 {s with re:=jH c a.m (a.ks.getD i aI)} _ sz_35 ⟨rfl,rfl,dC⟩ dB rfl λw' T' x y _=>?_;refine Part.mono (l_note2 p n x.rel (arL_own (P.aF R b) x y)) λv J K=>?_;exact NtQ.step ((Gx.bL R b).trans x) K
 ·have t:¬s.pt>=0:=o;have e:nt3 c a.m (a.ks.getD i aI) s=s:=by rw[nt3,bV o]
  rw[e];simp -implicitDefEqProofs (maxSteps:=3000000) only[L103_1,ptr,ae,ac,jZ,kS,ag,qI,d,ix,z,mM,t,decide_false,zS];exact l_note2 p n R P
theorem l_note0(N:gG c)(M:ee c a.m){i j:Nat}(q:i<cW c)(o:j<a.l.length)(u:(a.ks.getD i aI).busy=true->McOk c a.m (a.ks.getD i aI) (a.ks.getD i aI).mc)(b:(a.ks.getD i aI).busy=true->(a.ks.getD i aI).point≠0->PtOk c (a.ks.getD i aI) (a.ks.getD i aI).mc){s:di}(R:Rel w T)(P:oj w T ab h c (arL a j s) dQ cm):
  P103_0 (ptr ab) (ptr (dQ.getD i 0)) (bN j) w (NtQ w T ab h c a dQ cm j (nt4 (a.ks.getD i aI) a.steps (nt3 c a.m (a.ks.getD i aI) (nt2 (a.ks.getD i aI) a.steps s)))):=by
 apply L103_0_ok;obtain⟨kv,ov,av,pv,lv,hv,F⟩:=ar_f R P.nd;obtain⟨I,J,f8,K,B,d,C,f,f0⟩:=F.ld;have f:an (hp w ab) (0+13)=some (bN a.steps):=f;have r:=(ad.refl [] w).drew;obtain⟨g,ix,rd,_⟩:=ar_sp R P.nd F (i:=j) (s:=s) (ua o);have k:an (hp w g) (j*20+10)=some (bN s.bk):=rd 10 dB;have A:an (hp w (dQ.getD i 0)) (0+19)=some (bN (a.ks.getD i aI).back):=(P.wf R q).2.2;by_cases x:s.bk<0/\0<(a.ks.getD i aI).back
 ·obtain⟨n,t⟩:=x;have D:(a.ks.getD i aI).back>0:=t;have e:nt2 (a.ks.getD i aI) a.steps s={s with bk:=a.steps}:=by rw[nt2,bU ⟨n,t⟩]
  rw[e];have E:=F.aF R P.nd r;obtain⟨L,p,_,st⟩:=ar_sp (R.aF r) P.nd E (i:=j) (s:=s) (ua o);rw[ix]at p;cases p;simp -implicitDefEqProofs (maxSteps:=3000000) only[L103_0,ptr,ae,ac,jZ,sD,fa_172_9,sy,ag,qI,d,f,ix,k,A,aG,fS,n,D,decide_true,zS];refine st 3 (bN a.steps) 1 10 {s with bk:=a.steps} _ aE ⟨rfl,rfl,dC⟩ dB rfl λw' T' y z _=>?_;refine Part.mono (l_note1 N M q o u b y.rel (arL_own (P.aF R r) y z)) λv G H=>?_;exact NtQ.step ((Gx.bL R r).trans y) H
 ·have e:nt2 (a.ks.getD i aI) a.steps s=s:=by rw[nt2,bV x]
  rw[e];by_cases n:s.bk<0
  ·have t:¬(a.ks.getD i aI).back>0:=λh=>x ⟨n,h⟩;simp -implicitDefEqProofs (maxSteps:=3000000) only[L103_0,ptr,ae,ac,jZ,fa_172_9,sy,ag,qI,d,ix,k,A,aG,fS,n,t,decide_true,decide_false,zS];exact l_note1 N M q o u b R P
  ·simp -implicitDefEqProofs (maxSteps:=3000000) only[L103_0,ptr,ae,ac,jZ,sy,ag,qI,d,ix,k,aG,n,decide_false,zS];exact l_note1 N M q o u b R P
theorem c_note(N:gG c)(R:Rel w T)(P:oj w T ab h c a dQ cm)(M:ee c a.m){i:Nat}(u:i<cW c)(O:0<=a.open'.getD i 0/\a.open'.getD i 0<a.l.length)(Q:(a.ks.getD i aI).busy=true->McOk c a.m (a.ks.getD i aI) (a.ks.getD i aI).mc)(x:(a.ks.getD i aI).busy=true->(a.ks.getD i aI).point≠0->PtOk c (a.ks.getD i aI) (a.ks.getD i aI).mc):
  aa prog 103 [ptr ab,bN i] w (NtQ w T ab h c a dQ cm (a.open'.getD i 0).toNat (noteS c a.m (a.ks.getD i aI) a.steps (a.l.getD (a.open'.getD i 0).toNat spZ))):=by
 obtain⟨j,E⟩:∃j:Nat,a.open'.getD i 0=j:=⟨(a.open'.getD i 0).toNat,(dy O.1).symm⟩
 rw[E,cj];have b:j<a.l.length:=by rw[E]at O;omega
 have U:a.l[j]? =some (a.l.getD j spZ):=by rw[cu,bX b];rfl
 generalize a.l.getD j spZ=s at*;have P0:oj w T ab h c (arL a j s) dQ cm:=by
  have:arL a j s=a:=by
   have:a.l.set j s=a.l:=by
    apply List.ext_getElem?;intro k;by_cases S:j=k
    ·subst S;rw[List.getElem?_set_self b,U]
    ·rw[List.getElem?_set_ne S]
   show{a with l:=a.l.set j s}=a;rw[this]
  rw[this];exact P
 apply F103_ok;obtain⟨kv,ov,av,pv,lv,hv,F⟩:=ar_f R P0.nd;obtain⟨Y,B,f8,Z,d,f,V,n,f0⟩:=F.ld;have n:an (hp w ab) (0+13)=some (bN a.steps):=n;have G:=(ad.refl [] w).drew;have o:=G.trans (ad.refl [] w.drew).drew;obtain⟨g,ix,rd,_⟩:=ar_sp R P0.nd F (i:=j) (s:=s) (ua b);have C:an (hp w g) (j*20+9)=some (bN s.pt):=rd 9 dB;obtain⟨gk,ik,lk⟩:=P0.kbl F u;obtain⟨W,io,t,_⟩:=ar_op R P0.nd F (i:=i) (by show i<a.open'.length;rw[P.n5];exact u);have t:an (hp w W) i=some (bN j):=by rw[<- E];exact t
 obtain⟨q,y,_⟩:=P0.wf R u;have q:an (hp w (dQ.getD i 0)) (0+5)=some (.bool (a.ks.getD i aI).busy):=q;have y:an (hp w (dQ.getD i 0)) (0+18)=some (bN (a.ks.getD i aI).point):=y;rw[noteS_eq];have r:∀w1,ad [] w w1->P103_0 (ptr ab) (ptr (dQ.getD i 0)) (bN j) w1 (NtQ w T ab h c a dQ cm j (nt4 (a.ks.getD i aI) a.steps (nt3 c a.m (a.ks.getD i aI) (nt2 (a.ks.getD i aI) a.steps s)))):=λw1 H=>by
  refine Part.mono (l_note0 N M u b Q x (R.aF H) (P0.aF R H)) λv I J=>?_;exact NtQ.step (Gx.bL R H) J
 by_cases D:s.pt<0/\(0<(a.ks.getD i aI).point\/(a.ks.getD i aI).busy=false)
 ·obtain⟨p,h2⟩:=D;have e:nt1 (a.ks.getD i aI) a.steps s={s with pt:=a.steps}:=by rw[nt1,bU ⟨p,h2⟩]
  rw[e];have X:=F.aF R P0.nd o;obtain⟨g1,z,_,st⟩:=ar_sp (R.aF o) P0.nd X (i:=j) (s:=s) (ua b);rw[ix]at z;cases z;have fin:ck prog (Instr.storeAt 3 (.pointer (some ⟨g,j*20+9,none⟩)) (bN a.steps)) w.drew.drew λw1=>P103_0 (ptr ab) (ptr (dQ.getD i 0)) (bN j) w1 (NtQ w T ab h c a dQ cm j (nt4 (a.ks.getD i aI) a.steps (nt3 c a.m (a.ks.getD i aI) (nt2 (a.ks.getD i aI) a.steps {s with pt:=a.steps})))):=by
   refine st 3 (bN a.steps) 1 9 {s with pt:=a.steps} _ aE ⟨rfl,rfl,dC⟩ dB rfl λw' T' K L _=>?_;refine Part.mono (l_note0 N M u b Q x K.rel (arL_own (P0.aF R o) K L)) λv I J=>?_;exact NtQ.step ((Gx.bL R o).trans K) J
  simp -implicitDefEqProofs only[ptr]at fin;by_cases A:(a.ks.getD i aI).point>0
  ·simp -implicitDefEqProofs (maxSteps:=3000000) only[F103,ptr,ae,ac,mi,sC,jZ,sD,aV,eM,kS,ag,az,aK,qI,ld_75,rI,B,d,f,n,ix,C,ik,lk,io,t,q,y,aG,fS,p,A,decide_true,zS];exact fin
  ·have hb:(a.ks.getD i aI).busy=false:=by
    rcases h2 with h2|h2
    ·exact absurd h2 A
    ·exact h2
   rw[hb]at q;simp -implicitDefEqProofs (maxSteps:=3000000) only[F103,ptr,ae,ac,mi,sC,jZ,sD,aV,eM,kS,ag,az,aK,qI,ld_75,rI,B,d,f,n,ix,C,ik,lk,io,t,q,y,aG,fS,p,A,decide_true,decide_false,zS];exact fin
 ·have e:nt1 (a.ks.getD i aI) a.steps s=s:=by rw[nt1,bV D]
  rw[e];simp -implicitDefEqProofs only[ptr]at r;by_cases p:s.pt<0
  ·have A:¬(a.ks.getD i aI).point>0:=λh=>D ⟨p,.inl h⟩;have hb:(a.ks.getD i aI).busy=true:=by
    cases hb:(a.ks.getD i aI).busy with
    |true=>rfl
    |false=>exact absurd ⟨p,.inr hb⟩ D
   rw[hb]at q;simp -implicitDefEqProofs (maxSteps:=3000000) only[F103,ptr,ae,ac,mi,sC,jZ,aV,eM,kS,ag,az,aK,qI,ld_75,rI,B,d,f,ix,C,ik,lk,io,t,q,y,aG,fS,p,A,decide_true,decide_false,zS];exact r _ G
  ·simp -implicitDefEqProofs (maxSteps:=3000000) only[F103,ptr,ae,ac,mi,sC,jZ,aV,eM,kS,ag,az,aK,qI,ld_75,rI,B,d,f,ix,C,ik,lk,io,t,aG,p,decide_false,zS];exact r _ G
end
section
variable{w w0 w1 w2 w':World}{T T0 T1 T2 T':dH}{h:Hm}{c:cx}{m m':bd}{o o' b sb lb q kb wb mb ab:Nat}{a a':sQ}{dQ:List Nat}{cm opv':List Value}{kv ov av pv lv hv:Value}
theorem iM{α:Type}(l:List α){i:Nat}(a:i<l.length)(x d:α)(k:Nat):(l.set i x).getD k d=if k=i then x else l.getD k d:=by
 rw[cu,cu];by_cases h:k=i
 ·subst h;rw[List.getElem?_set_self a,bU rfl];rfl
 ·rw[List.getElem?_set_ne (λe=>h e.symm),bV h]
theorem oj.stepped(P:oj w T ab h c a dQ cm){i:Nat}(o:i<cW c)(g:Gx (fK h T (i+1)) w T w' T')(p:dG T' h c m'){f:jE}(q:tW w' T' (i+1) (dQ.getD i 0) h c i f):oj w' T' ab h c {a with m:=m',ks:=a.ks.set i f} dQ cm:=by
 have j:i<a.ks.length:=by rw[P.n3];exact o
 refine⟨g.off _ _ P.nd λb=>?_,p,P.n1,P.n2,by rw[cE];exact P.n3,P.n4,P.n5,P.n6,λk l=>?_,λk l=>?_⟩
 ·rcases b with b|⟨e,cs,b⟩
  ·obtain⟨n,r⟩:=P.hm.mT;have:=P.nd;rw[b,r]at this;have this:=Option.some.inj this;simp only[memN,tZ,Nod.st.injEq]at this;exact absurd this.2.1 dC
  ·have:=P.nd;rw[b]at this;have this:=Option.some.inj this;simp only[tZ,Nod.st.injEq]at this;omega
 ·show tW w' T' (k+1) (dQ.getD k 0) h c k ((a.ks.set i f).getD k aI);rw[iM _ j];by_cases d:k=i
  ·subst d;rw[bU rfl];exact q
  ·rw[bV d];exact(P.wk k l).other P.hm dB dB g
 ·obtain⟨A,n,s,t⟩:=P.op k l;exact⟨A,n,s,t.gx g⟩
def PkQ(w:World)(T:dH)(ab:Nat)(h:Hm)(c:cx)(dQ:List Nat)(cm:List Value)(a':sQ)(v:Value)(w':World):Prop:=v= .bool true/\∃T',Gx (λ_=>True) w T w' T'/\oj w' T' ab h c a' dQ cm
theorem PkQ.step{v:Value}{S:Nat->Prop}(g:Gx S w T w1 T1)(a:PkQ w1 T1 ab h c dQ cm a' v w'):PkQ w T ab h c dQ cm a' v w':=by
 obtain⟨e,T',b,d⟩:=a;exact⟨e,T',(g.mono λ_ _=>trivial).trans b,d⟩
structure WmOk(c:cx)(m:bd)(k:jE):Prop where
 mem:ee c m
 mc:k.busy=true->McOk c m k k.mc
 pt:k.busy=true->k.point≠0->PtOk c k k.mc
theorem l_pick1(N:gG c)(R:Rel w T)(P:oj w T ab h c a dQ cm){i:Nat}(b:i<cW c)(M:ee c a.m)(t:WkOk c a.m (a.ks.getD i aI))(u:0<=a.open'.getD i 0/\a.open'.getD i 0<a.l.length)(C:0<=a.steps/\a.steps<=1000000000)(d:WmOk c (aw c i a.m (a.ks.getD i aI)).1 (aw c i a.m (a.ks.getD i aI)).2):
  P58_1 (ptr ab) (bN i) (ptr (dQ.getD i 0)) w (PkQ w T ab h c dQ cm (arGo c a i)):=by
 apply L58_1_ok;rw[L58_1];have e:i<a.ks.length:=by rw[P.n3];exact b
 refine(c_Step N R P.hm dB (P.wk i b) M b t).mono ?_;rintro _ w1 ⟨_,T1,f,v,x⟩;have y:=P.stepped b f v x;have z:arGo c a i={a with m:=(aw c i a.m (a.ks.getD i aI)).1,ks:=a.ks.set i (aw c i a.m (a.ks.getD i aI)).2,l:=a.l.set (a.open'.getD i 0).toNat (noteS c (aw c i a.m (a.ks.getD i aI)).1 (aw c i a.m (a.ks.getD i aI)).2 a.steps (a.l.getD (a.open'.getD i 0).toNat spZ)),steps:=a.steps+1}:=rfl;rw[z];generalize aw c i a.m (a.ks.getD i aI)=r at*;have g:(a.ks.set i r.2).getD i aI=r.2:=by rw[iM _ e,bU rfl]
 have p:=c_note (i:=i) N f.rel y d.mem b u (by simp only[g];exact d.mc) (by simp only[g];exact d.pt);simp only[g]at p;refine p.mono ?_;rintro _ w2 ⟨T2,j,k⟩;obtain⟨kv,ov,av,pv,lv,hv,q⟩:=ar_f j.rel k.nd;have n:an (hp w2 ab) (0+13)=some (bN a.steps):=q.ld.2.2.2.2.2.2.2.1;have A:IntKind.i64.wrap (a.steps+1)=a.steps+1:=ap dB dB;simp -implicitDefEqProofs (maxSteps:=3000000) only[ptr,ae,ac,sD,ag,n,aj,A];refine ar_steps j.rel k.nd q (a.steps+1) λD B s o=>?_;exact⟨rfl,B,((f.mono λ_ _=>trivial).trans (j.mono λ_ _=>trivial)).trans (s.mono λ_ _=>trivial),k.own s o rfl rfl rfl rfl rfl⟩
theorem op_box{w:World}{x:Value}{op:eu}{K:Value->World->Prop}(c:∀q w',w.heap.size<=q->ad [] w w'->hp w' q=some (.cells (cI op).toArray 37)->K (bS q) w'):
  cP prog (Instr.alloc 37 true x) w λt w1=>ck prog (Instr.storeAt 37 t (.agg (cI op).toArray)) w1 λw2=>K t w2:=by
 rw[al_37];generalize b:World.alloc _ _=w1;have d:ad [] w w1:=by rw[<- b];exact(ad.refl _ _).alloc _
 have a:hp w1 w.heap.size=some (.cells (cI (0,0,0,0,0,0)).toArray 37):=by rw[<- b,af,bU rfl];rfl
 rw[st_37 rfl rfl (by rw[a,bq];exact cr (by show 6<=6;omega)) (by rw[a];rfl),a];exact c _ _ (cy _) (d.put (.inr (cy _)) _ _) (ar (nZ a) _ _)
theorem st_hnA{w:World}{e:TypeId}{x a:eN}{q:Nat}{L:World->Prop}(hb:hp w q=some (.cells (tp a) e)):ck prog (Instr.storeAt 32 (bS q) (.agg (tp x))) w L=L (put w q (tp x) e):=by
 rw[st_32 rfl rfl (by rw[hb,bq];exact cr (by show 5<=5;omega)) (by rw[hb];rfl),hb];rfl
abbrev arB0(a:sQ)(i:Nat)(s:di):sQ:={a with at':=a.at'.set i (ez a i+1),open':=a.open'.set i a.l.length,l:=a.l++ [s]}
theorem l_pick0(N:gG c)(R:Rel w T)(P:oj w T ab h c a dQ cm){i:Nat}(u:i<cW c){op:eu}{x:eN}{f e:Nat}(y:hp w f=some (.cells (cI op).toArray 37)/\T f=none)(g:hp w e=some (.cells (tp x) 32)/\T e=none)(j:0<=(a.ks.getD i aI).depth/\(a.ks.getD i aI).depth<=15)(k:(a.ks.getD i aI).holds.length<=100)(J:a.h.length<=100000)
  (next:∀{w':World} {T':dH},Rel w' T'->oj w' T' ab h c {a with h:=a.h++ [x],ks:=a.ks.set i (iV c (a.ks.getD i aI) op x)} dQ cm->P58_1 (ptr ab) (bN i) (ptr (dQ.getD i 0)) w' (PkQ w' T' ab h c dQ cm a')):
  P58_0 (ptr ab) (bN i) (ptr (dQ.getD i 0)) (ptr f) (ptr e) w (PkQ w T ab h c dQ cm a'):=by
 apply L58_0_ok;obtain⟨kv,ov,av,pv,lv,hv,F⟩:=ar_f R P.nd;obtain⟨K,L,f8,M,z,A,l,B,f0⟩:=F.ld;have b:=(ad.refl [] w).drew;have C:=R.aF b;have Fd:=F.aF R P.nd b;have D:gi prog 32 (bS e) w.drew=some (.agg (tp x)):=sh (w:=w.drew) (b.at g.1 (by simp));rw[L58_0];simp -implicitDefEqProofs (maxSteps:=3000000) only[ptr,ae,ac,fa_78_7,ld_76,l,D,zS];refine ps_76 (x:=hv) (xs:=a.h.flatMap ba) (n:=a.h.length) (base:=0) (by simp) Fd.rh dB (cQ _) λO w1 E m o=>?_;refine ar_addH C P.nd Fd x (ji m) o E λw2 T2 d p Q=>?_;have q:oj w2 T2 ab h c {a with h:=a.h++ [x]} dQ cm:=(P.aF R b).own d p rfl rfl rfl rfl rfl;have r:=d.loc (b.at y.1 (by simp)) y.2;have s:=d.loc (b.at g.1 (by simp)) g.2;simp -implicitDefEqProofs (maxSteps:=3000000) only[ac,ld_opA r.1,sh s.1];refine(c_Start N d.rel q.hm dB (q.wk i u) j k op x).mono ?_;rintro _ U ⟨_,V,t,H3,G⟩;have H:=q.stepped u t H3 G;refine Part.mono (next t.rel H) λv w' I=>?_;exact PkQ.step (Gx.bL (S:=λ_=>True) R b) (PkQ.step d (PkQ.step t I))
end
section
variable{w w0 w1 w2 w':World}{T T0 T1 T2 T':dH}{h:Hm}{c:cx}{m m':bd}{o o' b sb lb q kb wb mb ab:Nat}{a a':sQ}{dQ:List Nat}{cm opv':List Value}{kv ov av pv lv hv:Value}
structure ArOk(c:cx)(a:sQ):Prop where
 m:ee c a.m
 wk:∀i,i<cW c->WkOk c a.m (a.ks.getD i aI)
 ops:∀i,i<cW c->(a.ops.getD i []).length<=100000
 at':∀i,i<cW c->0<=a.at'.getD i 0/\a.at'.getD i 0<=(a.ops.getD i []).length
 op:∀i,i<cW c->(a.ks.getD i aI).busy=true->0<=a.open'.getD i 0/\a.open'.getD i 0<a.l.length
 l:a.l.length<=100000
 h:a.h.length<=100000
 steps:0<=a.steps/\a.steps<=1000000000
structure PkOk(c:cx)(a:sQ)(i:Nat):Prop where
 wk:WkOk c a.m (a.ks.getD i aI)
 go:WmOk c (aw c i a.m (a.ks.getD i aI)).1 (aw c i a.m (a.ks.getD i aI)).2
theorem c_Pick(N:gG c)(R:Rel w T)(P:oj w T ab h c a dQ cm)(A:ArOk c a)(x:Int)
  (A1:gY c a x=true->PkOk c (if(a.ks.getD x.toNat aI).busy then a else jz c a x.toNat) x.toNat):
  aa prog 58 [ptr ab,bN x] w λv w'=>v= .bool (gY c a x)/\∃T',Gx (λ_=>True) w T w' T'/\oj w' T' ab h c (oY c a x) dQ cm:=by
 apply F58_ok;rw[F58];refine(c_Left R P N x A.ops A.at').mono ?_;rintro _ w1 ⟨rfl,J⟩;have K:=R.aF J;have u:=P.aF R J;cases f:gY c a x with
 |false=>
  have e:oY c a x=a:=by rw[oY,bU f]
  simp only[ac,zS];rw[e];exact⟨by trivial,T,Gx.bL R J,u⟩
 |true=>
 have k:=A1 f;have hx:0<=x/\x<c.1:=by
  unfold gY at f;simp only[cZ,decide_eq_true_eq]at f;exact⟨f.1,f.2.1⟩
 obtain⟨i,ei⟩:∃i:Nat,x=i:=⟨x.toNat,(dy hx.1).symm⟩
 subst ei;have n1:=N.n1;have b:i<cW c:=dB;rw[cj]at k;have e0:oY c a (i:Nat)=arGo c (if(a.ks.getD i aI).busy then a else jz c a i) i:=by rw[oY,bV (by rw[f];decide),cj]
 rw[e0];obtain⟨kv,ov,av,pv,lv,hv,F⟩:=ar_f K u.nd;obtain⟨f6,f7,f8,f9,q,r,a6,a7,f0⟩:=F.ld;obtain⟨gk,ik,lk⟩:=u.kbl F b;have fb:=u.busy K b;cases hb:(a.ks.getD i aI).busy with
 |true=>
  rw[hb]at fb k;simp only[if_true]at k⊢;simp only[ptr,ae,ac,mi,aV,az,ld_75,rI,f7,ik,lk,fb,zS];refine Part.mono (l_pick1 N K u b A.m k.wk (A.op i b hb) A.steps k.go) λv w' hq=>?_;obtain⟨e,T',g',P'⟩:=hq;exact⟨e,T',(Gx.bL (S:=λ_=>True) R J).trans g',P'⟩
 |false=>
 rw[hb]at fb k;have L:ez a i<(a.ops.getD i []).length:=by
  unfold gY at f;rw[cj,hb]at f;simp only[cZ,decide_eq_true_eq,Bool.false_or]at f;exact f.2.2
 simp only[Bool.false_eq_true,if_false]at k⊢;obtain⟨op,M⟩:∃op,op=(a.ops.getD i [])[ez a i]:=⟨_,rfl⟩
 have O:(a.ops.getD i []).getD (ez a i) (0,0,0,0,0,0)=op:=by rw[cu,bX L,M];rfl
 obtain⟨s,es⟩:∃s:di,s=⟨i,ez a i,op,a.steps,-1,-1,-1,lR⟩:=⟨_,rfl⟩
 have eB:jz c a i={arB0 a i s with h:=a.h++ [fm (a.l++ [s]) s],ks:=a.ks.set i (iV c (a.ks.getD i aI) op (fm (a.l++ [s]) s))}:=by
  unfold jz;simp only[O,<-es]
 rw[eB]at k⊢;have a8:=(A.wk i b).depth;have a9:=(A.wk i b).holds;simp only[ptr,ae,ac,mi,aV,az,ld_75,rI,f7,ik,lk,fb,zS];refine(c_ahead K u b (A.ops i b) (A.at' i b)).mono ?_;rintro _ w2 ⟨rfl,c2⟩;have y:=J.trans c2;have R2:=R.aF y;have P2:=P.aF R y;have F2:=F.aF K u.nd c2;obtain⟨go,Ao,ko,io,lo,el⟩:=P2.ol F2 b;obtain⟨bo,oo,i3,l3⟩:=el _ L;rw[<- M]at l3;have b1:=F2.ld.2.2.1;simp only[ac,sB,ld_70,nE,b1,io,lo,i3,l3];refine op_box λq7 Q b2 c3 b7=>?_;have n7:T q7=none:=R2.fresh b2;have U:=(ad.refl [] Q).drew;have z:=(y.trans c3).trans U;have R3:=R.aF z;have P3:=P.aF R z;have F3:=F2.aF R2 P2.nd (c3.trans U);obtain⟨f6,f7,f8,f9,q,r,a6,a7,f0⟩:=F3.ld;have b3:hp Q.drew q7=some (.cells (cI op).toArray 37):=b7;obtain⟨V,W,B,_,_,_⟩:=aT F3.rl;have B:lv= .slice V a.l.length W:=B;have ew:IntKind.i64.wrap ((ez a i:Int)+1)=(ez a i:Int)+1:=by have:=A.ops i b;exact ap dB dB
 obtain⟨g1,i1,_,b4⟩:=ar_at R3 P3.nd F3 (i:=i) (by show i<a.at'.length;rw[P.n4];exact b);have f9:an (hp Q ab) (0+9)=some av:=f9;have q:an (hp Q ab) (0+10)=some pv:=q;have r:an (hp Q ab) (0+11)=some (.slice V a.l.length W):=by rw[<- B];exact r
 simp only[ac,fa_78_4,sC,jZ,aK,qI,iP,f9,q,r,i1,aj,ew,zS];refine b4 ((ez a i:Int)+1) _ λw4 T4 g4 X F4=>?_;have P4:oj w4 T4 ab h c {a with at':=a.at'.set i (ez a i+1)} dQ cm:=P3.own g4 X rfl rfl rfl (by simp) rfl;have Y:=g4.loc b3 n7;obtain⟨g2,i2,_,b5⟩:=ar_op g4.rel X F4 (i:=i) (by show i<a.open'.length;rw[P.n5];exact b);simp only[ac,i2];refine b5 a.l.length _ λI T5 C D F5=>?_;have P5:oj I T5 ab h c {a with at':=a.at'.set i (ez a i+1),open':=a.open'.set i a.l.length} dQ cm:=P4.own C D rfl rfl rfl rfl (by simp);have E:=C.loc Y.1 Y.2;have g:=(ad.refl [] I).drew;have R5:=C.rel.aF g;have Z:=F5.aF C.rel D g;have b6:gi prog 37 (bS q7) I.drew=some (.agg (cI op).toArray):=ld_opA (w:=I.drew) E.1;have c4:an (hp I ab) (0+13)=some (bN a.steps):=F5.ld.2.2.2.2.2.2.2.1;have c5:an (hp I ab) (0+11)=some lv:=F5.ld.2.2.2.2.2.1;have c6:ai prog (Instr.build 39 #[(0,bN i),(1,bN (ez a i:Nat)),(2,.agg (cI op).toArray),(3,bN a.steps),(4,bN (-1)),(5,bN (-1)),(6,bN (-1))])=some (.agg (iW s)):=by rw[es];exact s4
 simp only[ac,sD,ag,b6,c4,c5,c6,zS];have d8:=A.l;refine ps_26 (x:=lv) (xs:=a.l.flatMap jS) (n:=a.l.length) (base:=0) (by simp) Z.rl dB (cQ _) λv6 w6 o6 c7 d1=>?_;refine ar_addL R5 D Z s (ji c7) d1 o6 λo T7 t d2 F7=>?_;have P7:oj o T7 ab h c (arB0 a i s) dQ cm:=(P5.aF C.rel g).own t d2 rfl rfl rfl rfl rfl;have a1:=t.loc (g.at E.1 (by simp)) E.2;have d3:Gx (λ_=>True) w T o T7:=((((Gx.bL (S:=λ_=>True) R z).trans (g4.mono λ_ _=>trivial)).trans (C.mono λ_ _=>trivial)).trans (Gx.bL C.rel g)).trans (t.mono λ_ _=>trivial);obtain⟨A7,a2,e7,d4,_,_⟩:=aT F7.rl;have e7:v6= .slice A7 (a.l++ [s]).length a2:=e7;have d5:an (hp o ab) (0+11)=some (.slice A7 (a.l++ [s]).length a2):=by rw[<- e7];exact F7.ld.2.2.2.2.2.1
 have a3:(a.l++ [s]).length=a.l.length+1:=by simp
 have d6:IntKind.i64.wrap (((a.l++ [s]).length:Int)-1)=(a.l.length:Int):=by rw[a3,ap dB dB];omega
 have d:=(ad.refl [] o).drew;have d9:=t.rel.aF d;have e1:=P7.aF t.rel d;have hX:qN (a.l++ [s]) (a.l.length:Nat)=fm (a.l++ [s]) s:=by
  rw[pN dB];congr 1;simp
 have a4:fp o A7 ((a.l++ [s]).flatMap jS):=d4;have fin:∀(j:World) (q8:Nat),ad [] o j->o.heap.size<=q8->hp j q8=some (.cells (tp (fm (a.l++ [s]) s)) 32)->P58_0 (ptr ab) (bN i) (ptr (dQ.getD i 0)) (ptr q7) (ptr q8) j λv w'=>v= .bool true/\∃T',Gx (λ_=>True) w T w' T'/\oj w' T' ab h c (arGo c {arB0 a i s with h:=a.h++ [fm (a.l++ [s]) s],ks:=a.ks.set i (iV c (a.ks.getD i aI) op (fm (a.l++ [s]) s))} i) dQ cm:=by
  intro j q8 p d7 b8;refine Part.mono (l_pick0 (a:=arB0 a i s) (op:=op) (x:=fm (a.l++ [s]) s) N (t.rel.aF p) (P7.aF t.rel p) b ⟨p.at a1.1 (by simp),a1.2⟩ ⟨b8,t.rel.fresh d7⟩ a8 a9 A.h fun{w9 T9} R9 P9=>l_pick1 N R9 P9 b A.m k.wk ?_ A.steps k.go) λv w' hq=>?_
  ·show 0<=(a.open'.set i a.l.length).getD i 0/\(a.open'.set i a.l.length).getD i 0<(a.l++ [s]).length;rw[iM _ (by rw[P.n5];exact b),bU rfl,a3];omega
  ·obtain⟨e,T',g',P'⟩:=hq;exact⟨e,T',(d3.trans (Gx.bL t.rel p)).trans g',P'⟩
 simp only[ptr]at fin;simp only[ac,iP,d5,aH,d6];refine⟨?_,?_⟩
 ·rw[oB];generalize G:World.alloc _ _=j;have p:ad [] o j:=by rw[<- G];exact d.alloc _
  have b8:hp j o.drew.heap.size=some (.cells (tp kJ) 32):=by rw[<- G,af,bU rfl];rfl
  clear G;refine(oJ dB (a4.ao p.below) (a.l.length:Nat)).mono ?_;rintro _ w9 ⟨rfl,c9⟩;rw[hX];have b9:=c9.at b8 (by simp);have eh:(ba (fm (a.l++ [s]) s)).toArray=tp (fm (a.l++ [s]) s):=rfl;rw[eh,st_hnA b9];exact fin _ _ ((p.trans c9).put (.inr (cy _)) _ _) (cy _) (ar (nZ b9) _ _)
 ·refine(oJ dB (a4.ao d.below) (a.l.length:Nat)).mono ?_;rintro _ j ⟨rfl,p⟩;rw[hX,oB];generalize H:World.alloc _ _=w9;have c9:ad [] j w9:=by rw[<- H];exact(ad.refl _ _).alloc _
  have b9:hp w9 j.heap.size=some (.cells (tp kJ) 32):=by rw[<- H,af,bU rfl];rfl
  clear H;have eh:(ba (fm (a.l++ [s]) s)).toArray=tp (fm (a.l++ [s]) s):=rfl;have a5:o.heap.size<=j.heap.size:=(d.trans p).size;rw[eh,st_hnA b9];exact fin _ _ (((d.trans p).trans c9).put (.inr a5) _ _) a5 (ar (nZ b9) _ _)
end
section
variable{w w0 w1 w2 w':World}{T T0 T1 T2 T':dH}{h:Hm}{c:cx}{m m':bd}{o o' b sb lb q kb wb mb ab:Nat}{a a':sQ}{dQ:List Nat}{cm opv':List Value}{kv ov av pv lv hv:Value}
def RunOk(c:cx):sQ->List Int->Prop
 |_, []=>True
 |a,x::p=>ArOk c a/\(gY c a x=true->PkOk c (if(a.ks.getD x.toNat aI).busy then a else jz c a x.toNat) x.toNat)/\RunOk c (oY c a x) p
theorem l_run(N:gG c){A:Option Addr}{p:List Int}{k:Nat}(g:p.length<=1000000):∀(r:List Int) (j:Nat) (i:Int),p.drop j=r->∀{w:World} {T:dH} {a:sQ},Rel w T->oj w T ab h c a dQ cm->Lo w T A (ints p)->RunOk c a r->j<=p.length->
  P28_0 (ptr ab) (.slice A p.length k) (bN i) (bN j) w λv w'=>(∃ n,v=bN n)/\∃T',Gx (λ_=>True) w T w' T'/\oj w' T' ab h c (oL c a r) dQ cm
 | [],j,i,b,w,T,a,R,P,L,O,t=>by
  apply L28_0_ok;have l:p.length<=j:=by
   have:=congrArg List.length b;simp at this;omega
  have u:¬(j:Int)<p.length:=dB;simp only[L28_0,aQ,ac,aG,u,decide_false,zS];exact⟨⟨_,rfl⟩,T,Gx.refl R,P⟩
 |x::r,j,i,b,w,T,a,R,P,L,O,t=>by
  apply L28_0_ok;have l:j<p.length:=by
   have:=congrArg List.length b;simp at this;omega
  have y:p[j]? =some x:=by
   have:(p.drop j)[0]? =some x:=by rw[b];rfl
   rwa[List.getElem?_drop,Nat.add_zero]at this
  have m:(j:Int)<p.length:=dB;obtain⟨q,f,ix,z,_⟩:=L.int y k;simp only[L28_0,aQ,ac,aG,m,decide_true,ix,ag,z,zS];refine(c_Pick N R P O.1 x O.2.1).mono ?_;rintro _ w1 ⟨rfl,T1,o,B⟩;have d:∀s:Int,P28_1 (ptr ab) (.slice A p.length k) (bN s) (bN j) w1 λv w'=>(∃ n,v=bN n)/\∃T',Gx (λ_=>True) w T w' T'/\oj w' T' ab h c (oL c a (x::r)) dQ cm:=λs=>by
   apply L28_1_ok;have C:IntKind.i64.wrap ((j:Int)+1)=((j+1:Nat):Int):=by rw[ap dB dB];omega
   simp only[L28_1,aj,C,ac];refine Part.mono (l_run N g r (j+1) s (by rw[<- List.drop_drop,b];rfl) o.rel B (L.gx o) O.2.2 dB) λv w' D=>?_;obtain⟨e,T',E,F⟩:=D;exact⟨e,T',o.trans E,F⟩
  cases gY c a x with
  |true=>
   simp only[ac,aj,zS];exact d _
  |false=>
   simp only[zS];exact d _
theorem c_Run(N:gG c)(R:Rel w T)(P:oj w T ab h c a dQ cm){A:Option Addr}{p:List Int}{k:Nat}(b:p.length<=1000000)(L:Lo w T A (ints p))(O:RunOk c a p):
  aa prog 28 [ptr ab,.slice A p.length k] w λv w'=>(∃ n,v=bN n)/\∃T',Gx (λ_=>True) w T w' T'/\oj w' T' ab h c (oL c a p) dQ cm:=by
 apply F28_ok;exact l_run N b p 0 0 rfl R P L O (cQ _)
end
theorem Ev.eff_app1{P:Program}{w:World}{K:Value->World->Prop}{t y e F:TypeId}{z:Value}{v x:Value}{i:TypeInfo}{base n b:Nat}{xs:List Value}(A:P.underlying t=some (.slice e))(B:P.info? e=some i)(C:i.zero=some z)(m:i.size=1)(o:z.cells.size=1)(hv:v.oneCell'=true)
  (d:w.ownsRow base e 1 x n xs) (l:n+1<=maxLen) (a:(n+1)*i.bytes<=140737488355328) (f:base<=w.heap.size) (hb:hp w b=some (.cells #[v] F))
  (p:∀x' w',w'.ownsRow base e 1 x' (n+1) (xs++ [v])->bl (λq=>x.ownBlock=some q) w w'->hI w x x'->K x' w'):
  cP P (Builtin.append_ #[t,t] y #[x,.slice (some ⟨b,0,none⟩) 1 1]) w K:=by
 have c:∀j u, [v][j]? =some u->w.cell? ((⟨b,0,none⟩:Addr).add j)=some u:=λj u G=>by rw[eL,fT,hb,aN];simpa using G
 have D:∀u∈ [v],u.oneCell'=true:=λu H=>by rw[db.1 H];exact hv
 have r: [v].length=1*i.size:=by rw[m];rfl
 obtain⟨x',w',E,I,g,_⟩:=run_append_own (P:=P) w base t y e i z 1 i.bytes A B C m rfl o dB x n xs d ⟨b,0,none⟩ 1 1 [v] (by simp) c D l a f;have s:=append_new A B C dB (by rw[m];exact d) r c D l a E;exact effv_of E (p x' w' I ⟨g.os,g.tape,g.output,g.size,λk p l=>g.block k p λe=>l e.symm⟩ s)
section
variable{w w0 w1 w2 w':World}{T T0 T1 T2 T':dH}{h:Hm}{c:cx}{m m':bd}{o o' b sb lb q kb wb mb ab:Nat}{a a':sQ}{dQ:List Nat}{cm opv':List Value}{kv ov av pv lv hv:Value}
theorem app_int{n:Nat}{x:Int}{v:Value}{l:List Value}{d:TypeId}{K:Value->World->Prop}(a:w.ownsRow 0 3 1 v n l)(k:n+1<=1000000)(hb:hp w b=some (.cells #[bN x] d))
  (e:∀v' w',w'.ownsRow 0 3 1 v' (n+1) (l++ [bN x])->bl (λq=>v.ownBlock=some q) w w'->hI w v v'->K v' w'):cP prog (Builtin.append_ #[22,22] 22 #[v,.slice (some ⟨b,0,none⟩) 1 1]) w K:=by
 obtain⟨i,f,g,j,c⟩:=oC;exact Ev.eff_app1 Tryz.underlying22 f g j rfl rfl a (by unfold maxLen;omega) (by rw[c];omega) (cQ _) hb e
theorem c_SupplyX(N:gG c)(R:Rel w T)(H:dG T h c m)(o:Nat):aa prog 96 [ptr h.wb] w λv w'=>(∃ b sb lb T',v=ptr b/\Gx (λ_=>False) w T w' T'/\fN w' T' o b sb lb h c suNew)/\ad [] w w':=by
 apply F96_ok;have g:an (hp w h.wb) (0+0+4)=some (bN c.2.2.2.2.1):=by rw[R.kK H.wT];rfl
 simp only[F96,ptr,ae,ac,bJ,fa_25_4,ag,g];refine(c_NewStash R N.b5 o).mono ?_;rintro _ w1 ⟨sb,T1,rfl,_,i,f,j⟩;refine(c_NewLimbo f.rel o).mono ?_;rintro _ w2 ⟨lb,T2,rfl,_,k,d,l⟩;have a:ai prog (Instr.build 215 #[(0,ptr h.wb),(1,ptr sb),(2,ptr lb)])=some (.agg #[ptr h.wb,ptr sb,ptr lb]):=bd_215_0_1_2;simp only[ptr]at a;simp only[ptr,a,ak,aq,ac];have e:=Gx.pR (S:=λ_=>False) d.rel o 215 [ptr h.wb,ptr sb,ptr lb];exact⟨⟨w2.heap.size,sb,lb,_,rfl,(f.trans d).trans e,ax,(j.gx d (λh=>h)).gx e (λh=>h),l.gx e (λh=>h)⟩,(i.trans k).alloc _⟩
theorem c_WkNewX(N:gG c)(R:Rel w T)(H:dG T h c m)(o id:Nat):aa prog 56 [ptr h.wb,bN id] w λv w'=>(∃ kb T',v=ptr kb/\Gx (λ_=>False) w T w' T'/\tW w' T' o kb h c id aI)/\ad [] w w':=by
 apply F56_ok;simp only[F56,ptr];refine(c_SupplyX N R H o).mono ?_;rintro _ w1 ⟨⟨b,sb,lb,T1,rfl,d,f⟩,g⟩;have a:ai prog (Instr.build 172 #[(0,ptr h.wb),(1,bN id),(2,ptr b)])=some (.agg (mJ h.wb id b aI (.slice none 0 0) none none none none none none none)):=bd_172_0_1_2;simp only[ptr]at a;simp only[ptr,a,ak,aq,ac];have e:=Gx.pR (S:=λ_=>False) d.rel o 172 (mJ h.wb id b aI (.slice none 0 0) none none none none none none none).toList;exact⟨⟨w1.heap.size,_,rfl,d.trans e,b,sb,lb,.slice none 0 0,none,none,none,none,none,none,none,ax,f.no e,⟨none,0,rfl,cy _,Lo.nil _ _ _⟩,trivial⟩,g.alloc _⟩
abbrev lO(dQ:List Nat)(cm:List Value)(i:Nat):ArC:=⟨dQ.map ptr,cm,List.replicate i 0,List.replicate i (-1), [], [],0⟩
structure OpsL(w:World)(T:dH)(A:Option Addr)(ops:List (List eu))(vs:List Value):Prop where
 n:vs.length=ops.length
 r:Lo w T A vs
 e:∀i,i<ops.length->∃A k,vs[i]? =some (.slice A (ops.getD i []).length k)/\Lo w T A ((ops.getD i []).flatMap cI)
theorem OpsL.gx{S:Nat->Prop}{A:Option Addr}{ops:List (List eu)}{vs:List Value}(O:OpsL w T A ops vs)(g:Gx S w T w' T'):OpsL w' T' A ops vs:=
 ⟨O.n,O.r.gx g,λi a=>by obtain⟨A,k,b,c⟩:=O.e i a;exact⟨A,k,b,c.gx g⟩⟩
structure NaS(w0:World)(T0:dH)(q:Nat)(A:Option Addr)(ops:List (List eu))(vs:List Value)(c:cx)(h:Hm)(ab ik io ia:Nat)(dQ:List Nat)(cm:List Value)(m:bd)(w:World)(T:dH):Prop where
 g:Gx (λ_=>True) w0 T0 w T
 nd:T ab=some (tZ c h.wb (lO dQ cm ia))
 hm:dG T h c m
 n1:dQ.length=ik
 n2:cm.length=io
 wk:∀k,k<ik->tW w T (k+1) (dQ.getD k 0) h c k aI
 op:∀k,k<io->∃A n,cm[k]? =some (.slice A (ops.getD k []).length n)/\Lo w T A ((ops.getD k []).flatMap cI)
 q:hp w q=some (.cells (dN c).toArray 25)/\T q=none
 o:OpsL w T A ops vs
section
variable{A:Option Addr}{ops:List (List eu)}{vs:List Value}{ik io ia:Nat}
theorem NaS.gx(X:NaS w0 T0 q A ops vs c h ab ik io ia dQ cm m w T)(g:Gx (λ_=>False) w T w' T'):NaS w0 T0 q A ops vs c h ab ik io ia dQ cm m w' T':=
 ⟨X.g.trans (g.mono λ_ _=>trivial),g.off _ _ X.nd (λh=>h),X.hm.no g,X.n1,X.n2,λk a=>(X.wk k a).si g λ_ _ _ _ h=>h,λk a=>by obtain⟨A,n,b,d⟩:=X.op k a;exact⟨A,n,b,d.gx g⟩,g.loc X.q.1 X.q.2,X.o.gx g⟩
theorem NaS.addK{b:Nat}(X:NaS w0 T0 q A ops vs c h ab ik io ia dQ cm m w T)(K:tW w T (ik+1) b h c ik aI)(g:Gx (λq=>q=ab) w T w' T')(hT:T' ab=some (tZ c h.wb {lO dQ cm ia with ks:=(lO dQ cm ia).ks++ [ptr b]})):NaS w0 T0 q A ops vs c h ab (ik+1) io ia (dQ++ [b]) cm m w' T':=by
 refine⟨X.g.trans (g.mono λ_ _=>trivial),by rw[hT];simp[lO],X.hm.offA g X.nd,by simp[X.n1],X.n2,λk d=>?_,λk d=>by obtain⟨A,n,f,i⟩:=X.op k d;exact⟨A,n,f,i.gx g⟩,g.loc X.q.1 X.q.2,X.o.gx g⟩;have e:(dQ++ [b]).getD k 0=if k<ik then dQ.getD k 0 else b:=by
  have j:=X.n1;rw[cu,cu];by_cases h:k<ik
  ·rw[bU h,List.getElem?_append_left dB]
  ·rw[bV h,List.getElem?_append_right dB,show k-dQ.length=0 by omega];rfl
 rw[e];by_cases h:k<ik
 ·rw[bU h];exact(X.wk k h).si g λq e cs a=>tQ a X.nd dB
 ·rw[bV h,show k=ik by omega];exact K.si g λq e cs a=>tQ a X.nd dB
theorem NaS.addO{a:Option Addr}{n9:Nat}(X:NaS w0 T0 q A ops vs c h ab ik io ia dQ cm m w T)(L:Lo w T a ((ops.getD io []).flatMap cI))(g:Gx (λq=>q=ab) w T w' T')(hT:T' ab=some (tZ c h.wb {lO dQ cm ia with ops:=(lO dQ cm ia).ops++ [.slice a (ops.getD io []).length n9]})):NaS w0 T0 q A ops vs c h ab ik (io+1) ia dQ (cm++ [.slice a (ops.getD io []).length n9]) m w' T':=by
 refine⟨X.g.trans (g.mono λ_ _=>trivial),by rw[hT],X.hm.offA g X.nd,X.n1,by simp[X.n2],λk b=>(X.wk k b).si g λq e cs d=>tQ d X.nd dB,λk b=>?_,g.loc X.q.1 X.q.2,X.o.gx g⟩;have j:=X.n2;by_cases h:k<io
 ·obtain⟨A,n,f,i⟩:=X.op k h;exact⟨A,n,by rw[List.getElem?_append_left dB];exact f,i.gx g⟩
 ·have b:k=io:=dB;subst b;exact⟨a,n9,by rw[List.getElem?_append_right dB,show k-cm.length=0 by omega];rfl,L.gx g⟩
theorem NaS.add2(X:NaS w0 T0 q A ops vs c h ab ik io ia dQ cm m w T)(g:Gx (λq=>q=ab) w T w' T')(hT:T' ab=some (tZ c h.wb {lO dQ cm ia with at':=(lO dQ cm ia).at'++ [0],op:=(lO dQ cm ia).op++ [-1]})):NaS w0 T0 q A ops vs c h ab ik io (ia+1) dQ cm m w' T':=
 ⟨X.g.trans (g.mono λ_ _=>trivial),by rw[hT];simp only[lO,List.replicate_succ'],X.hm.offA g X.nd,X.n1,X.n2,λk a=>(X.wk k a).si g λq e cs b=>tQ b X.nd dB,λk a=>by obtain⟨A,n,d,f⟩:=X.op k a;exact⟨A,n,d,f.gx g⟩,g.loc X.q.1 X.q.2,X.o.gx g⟩
theorem l_na2{i:Nat}{x1:Value}{I:Option Addr}{n9:Nat}{Q:Value->World->Prop}(hi:i<1000)(X:NaS w0 T0 q A ops vs c h ab (i+1) i i dQ cm m w T)(L9:Lo w T I ((ops.getD i []).flatMap cI))
  (next:∀{w':World} {T':dH} {opv':List Value},NaS w0 T0 q A ops vs c h ab (i+1) (i+1) (i+1) dQ opv' m w' T'->P26_3 x1 (ptr q) (ptr ab) (bN i) w' Q):
  P26_2 x1 (ptr q) (ptr ab) (bN i) (.slice I (ops.getD i []).length n9) w Q:=by
 apply L26_2_ok;rw[L26_2];obtain⟨kv,ov,av,pv,lv,hv,F⟩:=ar_f X.g.rel X.nd;have f8:=F.ld.2.2.1;have n2:=X.n2;simp only[ptr,ae,ac,sB,ld_70,f8];refine ps_70 (x:=ov) (xs:=cm) (n:=cm.length) (base:=0) (by simp) F.ro dB (cQ _) λv1 w1 o1 J L=>?_;try simp only[ae,ac,sB]
 refine ar_addO X.g.rel X.nd F _ (ji J) L o1 λw2 T2 g2 j G=>?_;have X2:=X.addO L9 g2 j;have v:=g2.rel;obtain⟨f6,f7,f8,f9,M,a6,a7,a8,f0⟩:=G.ld;have ra:∀{a:World},ad [] w2 a->pW a T2 ab c h.wb {lO dQ cm i with ops:=(lO dQ cm i).ops++ [.slice I (ops.getD i []).length n9]} kv v1 av pv lv hv:=λr=>G.aF v j r;have O:(lO dQ cm i).at'.length=i:=by simp[]
 have P:(lO dQ cm i).op.length=i:=by simp[]
 have z:∀p,pv.ownBlock=some p->T2 p=some (.own ab 10):=(G.n.each 10 _ pv rfl rfl).2;have k:∀p,av.ownBlock=some p->T2 p=some (.own ab 9):=(G.n.each 9 _ av rfl rfl).2;have two:∀(a b u:World) (s:Nat) (B:TypeId) (u1:Value),ad [] w2 a->b.ownsRow 0 3 1 u1 ((lO dQ cm i).at'.length+1) (ints (lO dQ cm i).at'++ [bN 0])->bl (λq=>av.ownBlock=some q) a b->hI a av u1->ad [] b u->hp u s=some (.cells #[bN (-1)] B)->
   cP prog (Builtin.append_ #[22,22] 22 #[pv,.slice (some ⟨s,0,none⟩) 1 1]) u λR w=>ck prog (Instr.storeAt 22 (.pointer (some ⟨ab,0+9,none⟩)) u1) w λw=>ck prog (Instr.storeAt 22 (.pointer (some ⟨ab,0+10,none⟩)) R) w λw=>P26_3 x1 (ptr q) (ptr ab) (bN i) w Q:=by
  intro a b u s B u1 r o3 C S U V;have F3:=ra r;have W:u.ownsRow 0 3 1 pv (lO dQ cm i).op.length (ints (lO dQ cm i).op):=(C.sq (bl.bL U _)).row F3.rp λp hp Y=>by
   have h1:=z p hp;rw[k p Y]at h1;cases h1
  refine app_int W (by rw[P];omega) V λu2 w6 o6 Z a1=>?_;have o5:u.ownsRow 0 3 1 u1 ((lO dQ cm i).at'.length+1) (ints (lO dQ cm i).at'++ [bN 0]):=(bl.bL U (λ_=>False)).row o3 λ_ _ h=>h;exact ar_add2 (v.aF r) j F3 0 (-1) (C.sq (bl.bL U _)) S o5 Z a1 o6 λw7 T7 g7 a2 _=>next ((X2.gx (Gx.bL v r)).add2 g7 a2)
 have one:∀(a:World) (bA:Nat) (B:TypeId) (K:Value->World->Prop),ad [] w2 a->hp a bA=some (.cells #[bN 0] B)->(∀ u1 b,b.ownsRow 0 3 1 u1 ((lO dQ cm i).at'.length+1) (ints (lO dQ cm i).at'++ [bN 0])->bl (λq=>av.ownBlock=some q) a b->hI a av u1->an (hp b ab) (0+10)=some pv->K u1 b)->
   cP prog (Builtin.append_ #[22,22] 22 #[av,.slice (some ⟨bA,0,none⟩) 1 1]) a K:=by
  intro a bA B K r a3 hk;have F3:=ra r;refine app_int F3.ra (by rw[O];omega) a3 λu1 b o4 D a4=>?_;refine hk u1 b o4 D a4 ?_;have a5:=(v.aF r).lt ab _ j;have e:hp b ab=hp a ab:=D.block ab a5 λh=>by have:=k ab h;rw[j]at this;cases this
  rw[e];exact F3.ld.2.2.2.2.1
 simp only[ptr]at two;have al:∀(a:World) (x:Int),ad [] w2 a->ad [] w2 (a.alloc (.cells #[bN x] 3)):=λa x r=>r.alloc _;have f:=(ad.refl [] w2).drew;simp only[ac,fa_78_4,sC,aK,f9,M,bs_22_1,zS];have ao:∀{a b:World} {s:Nat} {x:Obj},w2.heap.size<=s->hp a s=some x->bl (λq=>av.ownBlock=some q) a b->hp b s=some x:=fun{a b s x} hs hx d=>d.at hx λY=>by
  have:=v.lt _ _ (k s Y);omega
 have H:w2.drew.heap.size=w2.heap.size:=rfl;have t:∀(a:World) (x:Int),hp (a.alloc (.cells #[bN x] 3)) a.heap.size=some (.cells #[bN x] 3):=λa x=>by rw[af,bU rfl]
 have oA:∀(a:World) (x y:Int),hp ((a.alloc (.cells #[bN x] 3)).alloc (.cells #[bN y] 3)) a.heap.size=some (.cells #[bN x] 3):=λa x y=>by
  rw[af,bV (by rw[ah];omega)];exact t a x
 have sA:∀(a:World) (x:Int),(a.alloc (.cells #[bN x] 3)).heap.size=a.heap.size+1:=λa x=>ah _ _;refine⟨⟨⟨?_,?_⟩,?_⟩,⟨?_,?_⟩,?_⟩
 ·refine one _ _ _ _ (al _ _ (al _ _ f)) (oA _ 0 (-1)) λu1 b o d l _=>?_;exact two _ b b _ _ u1 (al _ _ (al _ _ f)) o d l (ad.refl _ _) (ao (by rw[sA,H];omega) (t _ (-1)) d)
 ·refine one _ _ _ _ (al _ _ f) (t _ 0) λu1 b o d l _=>?_;exact two _ b _ _ _ u1 (al _ _ f) o d l ((ad.refl _ _).alloc _) (t _ (-1))
 ·refine one _ _ _ _ (al _ _ (al _ _ f)) (t _ 0) λu1 b o d l _=>?_;exact two _ b b _ _ u1 (al _ _ (al _ _ f)) o d l (ad.refl _ _) (ao (by rw[H];omega) (oA _ (-1) 0) d)
 ·refine one _ _ _ _ (al _ _ (al _ _ f)) (oA _ 0 (-1)) λu1 b o d l E=>?_;rw[E,ac];exact two _ b b _ _ u1 (al _ _ (al _ _ f)) o d l (ad.refl _ _) (ao (by rw[sA,H];omega) (t _ (-1)) d)
 ·refine one _ _ _ _ (al _ _ f) (t _ 0) λu1 b o d l E=>?_;rw[E,ac];exact two _ b _ _ _ u1 (al _ _ f) o d l ((ad.refl _ _).alloc _) (t _ (-1))
 ·refine one _ _ _ _ (al _ _ (al _ _ f)) (t _ 0) λu1 b o d l E=>?_;rw[E,ac];exact two _ b b _ _ u1 (al _ _ (al _ _ f)) o d l (ad.refl _ _) (ao (by rw[H];omega) (oA _ (-1) 0) d)
end
end
section
variable{w w0 w1 w2 w':World}{T T0 T1 T2 T':dH}{h:Hm}{c:cx}{m m':bd}{o o' b sb lb q kb wb mb ab kk:Nat}{a a':sQ}{dQ:List Nat}{cm opv':List Value}{kv ov av pv lv hv:Value}{A:Option Addr}{ops:List (List eu)}{vs:List Value}{ik io ia:Nat}
theorem opC_int(l:List eu):∀u∈l.flatMap cI,∃k x,u= .int k x:=λu a=>by
 obtain⟨o,_,h⟩:=List.mem_flatMap.1 a;simp only[cI,cV,dx,or_false]at h;rcases h with rfl|rfl|rfl|rfl|rfl|rfl<;>exact⟨_,_,rfl⟩
def NaQ(w0:World)(T0:dH)(q:Nat)(A:Option Addr)(ops:List (List eu))(vs:List Value)(c:cx)(h:Hm)(ab:Nat)(m:bd)(v:Value)(w':World):Prop:=v= .tuple #[ptr ab,bN 0]/\∃T' dQ cm,NaS w0 T0 q A ops vs c h ab (cW c) (cW c) (cW c) dQ cm m w' T'
theorem l_na1(N:gG c)(d:∀i,i<ops.length->(ops.getD i []).length<=1000):∀(f i:Nat),i+f=cW c->∀{w:World} {T:dH} {dQ:List Nat} {cm:List Value},NaS w0 T0 q A ops vs c h ab i i i dQ cm m w T->
  P26_1 (.slice A ops.length kk) (ptr q) (ptr ab) (bN i) w (NaQ w0 T0 q A ops vs c h ab m)
 |0,i,hf,w,T,dQ,cm,X=>by
  apply L26_1_ok;have hi:i=cW c:=dB;subst hi;have n1:=N.n1;obtain⟨t,_⟩:=cfl X.q.1;have hz:¬((cW c:Nat):Int)<c.1:=dB;simp only[L26_1,ptr,ae,ac,fq,ag,t,aG,hz,decide_false,zS];exact⟨by first|rfl|trivial,T,dQ,cm,X⟩
 |f+1,i,hf,w,T,dQ,cm,X=>by
  apply L26_1_ok;have n1:=N.n1;have a1:=N.b1;obtain⟨t,_⟩:=cfl X.q.1;have u:(i:Int)<c.1:=dB;obtain⟨kv,ov,av,pv,lv,hv,F⟩:=ar_f X.g.rel X.nd;obtain⟨f6,f7,f8,f9,a2,a3,a4,a5,f0⟩:=F.ld;have y:=(ad.refl [] w).drew;have R:=X.g.rel;rw[L26_1];simp only[ptr,ae,ac,fq,fa_78_1,mi,ag,ld_75,fW,t,f6,f7,aG,u,decide_true,zS];refine ib (c_WkNewX N (R.aF y) X.hm (i+1) i) ?_;rintro v w1 ⟨kb,T1,rfl,Q,K1⟩ c1;have z:=y.trans c1;have B:=(Gx.bL (S:=λ_=>False) R y).trans Q;have C:=X.gx B;have U:=Q.rel;have V:pW w1 T1 ab c h.wb (lO dQ cm i) kv ov av pv lv hv:=pW.of U C.nd (z.at F.n.hb (by simp));have D:(lO dQ cm i).ks.length=i:=by simp[X.n1]
  simp only[ptr];refine ps_75 (x:=kv) (xs:=(lO dQ cm i).ks) (n:=(lO dQ cm i).ks.length) (base:=0) (by simp) V.rk (by rw[D];omega) (cQ _) λv2 w2 o2 E G=>?_;try simp only[ae,ac,mi]
  refine ar_addK U C.nd V (ptr kb) (ji E) G o2 λw3 W Y H F3=>?_;have k:=C.addK K1 Y H;have Z:=Y.rel;have a:∀{w':World} {T':dH} {opv':List Value},NaS w0 T0 q A ops vs c h ab (i+1) (i+1) (i+1) (dQ++ [kb]) opv' m w' T'->P26_3 (.slice A ops.length kk) (ptr q) (ptr ab) (bN i) w' (NaQ w0 T0 q A ops vs c h ab m):=fun{w' T' opv'} X'=>by
   apply L26_3_ok;have ei:IntKind.i64.wrap ((i:Int)+1)=((i+1:Nat):Int):=by rw[ap dB dB];omega
   simp only[L26_3,aj,ei,ac];exact l_na1 N d f (i+1) dB X'
  simp only[ptr]at a;by_cases l:i<ops.length
  ·have b:(i:Int)<ops.length:=dB;obtain⟨Ai,ki,e1,Li⟩:=k.o.e i l;obtain⟨bo,oo,i1,l1,_⟩:=k.o.r.rd.elem1 (P:=prog) (s:=70) (n:=ops.length) (c:=kk) (j:= .i64) (i:=(i:Int)) underlying70 sz_116 (by rw[k.o.n];omega) dB dB;rw[cj,e1]at l1;simp only[tI,ac,aG,b,decide_true,i1,nE,l1,zS];obtain⟨ii,I,J,K,L⟩:=inf_37;refine cp_flat (e:=37) (size:=6) (us:=(ops.getD i []).flatMap cI) Tryz.underlying116 I J K rfl dB (by rw[hU qp]) Li.rd (opC_int _) (by have:=d i l;omega) (by rw[L];omega) λv4 w4 o4 M c4=>?_;obtain⟨A9,n9,rfl,r9⟩:=flat_src ⟨_,o4⟩;have O:Lo w4 W A9 ((ops.getD i []).flatMap cI):=⟨r9,λp hp _=>Z.fresh (M p.block (by rw[hp];rfl))⟩
   exact l_na2 dB (k.gx (Gx.bL Z c4)) O a
  ·have b:¬(i:Int)<ops.length:=dB;have eo:ops.getD i []= []:=by rw[cu,List.getElem?_eq_none dB];rfl
   simp only[tI,ac,aG,b,decide_false,zS];have O:Lo w3 W none ((ops.getD i []).flatMap cI):=by rw[eo];exact Lo.nil _ _ _
   have:=l_na2 (x1:= .slice A ops.length kk) (n9:=0) dB k O a;rw[eo]at this;exact this
theorem l_na0(N:gG c)(d:T0=λ_=>none)(R:Rel w T0)(O:OpsL w T0 A ops vs)(l:∀i,i<ops.length->(ops.getD i []).length<=1000)(F:ops.length<=100000)(u:hp w q=some (.cells (dN c).toArray 25)):∀(f i:Nat),i+f=ops.length->
  P26_0 (.slice A ops.length kk) (ptr q) (bN i) w λv w'=>∃h ab,NaQ w T0 q A ops vs c h ab (qC c) v w'
 |0,i,G=>by
  apply L26_0_ok;have I:¬(i:Int)<ops.length:=dB;have B:=(ad.refl [] w).drew;have x:hp w.drew q=some (.cells (dN c).toArray 25):=u;simp only[L26_0,ptr,tI,ac,aG,I,decide_false,fM x,zS];have J:=R.aF B;have K:aa prog 55 [.agg (dN c).toArray] w.drew λv w'=>(∃ h T',v=ptr h.wb/\Gx (λ_=>False) w.drew T0 w' T'/\dG T' h c (qC c))/\ad [] w.drew w':=(c_r11New N J).mono λv w' ⟨h,T',e,g,H⟩=>⟨⟨h,T',e,g,H⟩,g.aF.chg0 λk m=>by rw[d]at m;exact absurd rfl m⟩
  refine ib K ?_;rintro v w1 ⟨h,T1,rfl,C,L⟩ W;have y:=(Gx.bL (S:=λ_=>False) R B).trans C;have p:ai prog (Instr.build 78 #[(0,.agg (dN c).toArray),(1,ptr h.wb)])=some (.agg (arV c h.wb (.slice none 0 0) (.slice none 0 0) (.slice none 0 0) (.slice none 0 0) (.slice none 0 0) (.slice none 0 0) 0).toArray):=bd_78_0_1;simp only[ptr]at p;simp only[ptr,p,ac,ak,aq];have D:=Gx.new (S:=λ_=>False) (vs:=arV c h.wb (.slice none 0 0) (.slice none 0 0) (.slice none 0 0) (.slice none 0 0) (.slice none 0 0) (.slice none 0 0) 0) (cs:=qU c h.wb (lO [] [] 0)) C.rel 0 78 rfl λk Y v a b=>by
   have m:=(bY.1 a).1;have:(qU c h.wb (lO [] [] 0)).length=14:=rfl;match k,m with
   |0,_=>cases a;cases b;rfl
   |1,_=>cases a;cases b;rfl
   |2,_=>cases a;cases b;rfl
   |3,_=>cases a;cases b;rfl
   |4,_=>cases a;cases b;rfl
   |5,_=>cases a;cases b;rfl
   |6,_=>cases a;cases b;rfl
   |7,_=>cases a;cases b;exact tR
   |8,_=>cases a;cases b;exact tR
   |9,_=>cases a;cases b;exact tR
   |10,_=>cases a;cases b;exact tR
   |11,_=>cases a;cases b;exact tR
   |12,_=>cases a;cases b;exact tR
   |13,_=>cases a;cases b;rfl
   |k+14,m=>omega
  have o:=y.trans D;have M:T0 q=none:=by rw[d]
  have X:NaS w T0 q A ops vs c h w1.heap.size 0 0 0 [] [] (qC c) (w1.alloc (.cells (arV c h.wb (.slice none 0 0) (.slice none 0 0) (.slice none 0 0) (.slice none 0 0) (.slice none 0 0) (.slice none 0 0) 0).toArray 78)) _:=
   ⟨o.mono λ_ _=>trivial,ax,L.no D,rfl,rfl,λk m=>dB,λk m=>dB,o.loc u M,O.gx o⟩
  refine Part.mono (l_na1 N l (cW c) 0 dB X) λv w' Q=>⟨h,w1.heap.size,Q⟩
 |f+1,i,G=>by
  apply L26_0_ok;have z:(i:Int)<ops.length:=dB;have t:i<ops.length:=dB;obtain⟨Z,ki,T,Li⟩:=O.e i t;obtain⟨bo,oo,U,E,_⟩:=O.r.rd.elem1 (P:=prog) (s:=70) (n:=ops.length) (c:=kk) (j:= .i64) (i:=(i:Int)) underlying70 sz_116 (by rw[O.n];omega) dB dB;rw[cj,T]at E;have a:¬((ops.getD i []).length:Int)>1000:=by have:=l i t;omega
  have V:IntKind.i64.wrap ((i:Int)+1)=((i+1:Nat):Int):=by rw[ap dB dB];omega
  simp only[L26_0,tI,mm,ac,aG,fS,z,a,decide_true,decide_false,U,nE,E,aj,V,zS];exact l_na0 N d R O l F u f (i+1) dB
theorem c_NewArena(N:gG c)(d:T0=λ_=>none)(R:Rel w T0)(O:OpsL w T0 A ops vs)(f:∀i,i<ops.length->(ops.getD i []).length<=1000)(x:ops.length<=cW c):
  aa prog 26 [.agg (dN c).toArray,.slice A ops.length kk] w λv w'=>∃h ab T' dQ cm,v= .tuple #[ptr ab,bN 0]/\Gx (λ_=>True) w T0 w' T'/\oj w' T' ab h c (iL c ops) dQ cm:=by
 apply F26_ok;have y:=N.b1;have z:=N.n1;simp only[F26,ak,aq];generalize j:World.alloc _ _=w1;have n:ad [] w w1:=by rw[<- j];exact(ad.refl _ _).alloc _
 have k:hp w1 w.heap.size=some (.cells (dN c).toArray 25):=by rw[<- j,af,bU rfl]
 clear j;generalize w.heap.size=q at*;simp only[fM k,ac];refine(c_cfMay c w1).mono ?_;rintro _ w2 ⟨rfl,l⟩;have m:=l.at k (by simp);obtain⟨o,_⟩:=cfl m;have a:=n.trans l;have p:¬(ops.length:Int)>c.1:=dB;simp only[N.may,tI,ac,fq,ag,o,fS,p,decide_false,zS];have r:=R.aF a;have s:OpsL w2 T0 A ops vs:=O.gx (S:=λ_=>False) (Gx.bL R a);refine Part.mono (l_na0 N d r s f dB m ops.length 0 dB) λv w' t=>?_;obtain⟨h,ab,e,T',dQ,cm,X⟩:=t;refine⟨h,ab,T',dQ,cm,e,(Gx.bL R a).trans X.g,?_⟩;have u:∀i,i<cW c->(iL c ops).ops.getD i []=ops.getD i []:=λi b=>by
  show((List.range (cW c)).map λi=>ops.getD i []).getD i []=_;rw[cu,cN,List.getElem?_range b];rfl
 refine⟨X.nd,X.hm,X.n1,X.n2,by simp[iL],by simp[iL],by simp[iL],by simp[iL],λi b=>?_,λi b=>?_⟩
 ·have:(iL c ops).ks.getD i aI=aI:=by
   show(List.replicate (cW c) aI).getD i aI=_;rw[cu,List.getElem?_replicate,bU b];rfl
  rw[this];exact X.wk i b
 ·rw[u i b];exact X.op i b
end
theorem t2_1{a b:Value}:(#[a,b]:Array Value)[0+1]? =some b:=(rfl)
theorem t2_0{a b:Value}:(#[a,b]:Array Value)[0+0]? =some a:=(rfl)
theorem val_at{w:World}{A:Option Addr}{vs:List Value}{n c i:Nat}{x:Value}{j:IntKind}(h:fp w A vs)(f:vs.length=n)(a:vs[i]? =some x):
  ∃b o,ai prog (Instr.indexAt 70 (.slice A n c) (.int j i))=some (.pointer (some ⟨b,o,none⟩))/\an (hp w b) o=some x:=by
 have g:=(bY.1 a).1;obtain⟨b,o,e,d,_⟩:=h.elem1 (P:=prog) (c:=c) (n:=n) (i:=(i:Int)) (j:=j) underlying70 sz_116 dB dB dB;rw[cj,a]at d;exact⟨b,o,e,d⟩
theorem op_at{w:World}{A:Option Addr}{ops:List eu}{c i:Nat}{j:IntKind}(h:fp w A (ops.flatMap cI))(d:i<ops.length):
  ∃b o,ai prog (Instr.indexAt 116 (.slice A ops.length c) (.int j i))=some (.pointer (some ⟨b,o,none⟩))/\gi prog 37 (.pointer (some ⟨b,o,none⟩)) w=some (.agg (cI ops[i]).toArray):=by
 obtain⟨b,o,e,f,a,_⟩:=h.elem (P:=prog) (c:=c) (n:=ops.length) (i:=(i:Int)) (j:=j) Tryz.underlying116 nC dB (by rw[gL qp];exact cy _) dB dB;rw[cj,jX qp ops i d]at a;exact⟨b,o,e,by rw[ld_37,a];rfl⟩
theorem blk_add(p:Addr)(i:Nat):(p.add i).block=p.block:=by unfold Addr.add;split<;>rfl
theorem sZ.aF{k:IntKind}{w w':World}{S:List Nat}{A:Option Addr}{xs:List Int}(h:sZ k w A xs)(a:ad S w w')(b:∀p,A=some p->p.block∉S):sZ k w' A xs:=λi c=>by
 obtain⟨p,hp,d⟩:=h i c;exact⟨p,hp,a.cell d (by rw[blk_add];exact b p hp)⟩
theorem c_SeqN{w:World}{g:Nat}{A:Option Addr}{c:Nat}{xs:List Int}{at':Nat}(hb:hp w g=some (.cells #[.slice A xs.length c,bN at'] 114))(s:sZ .i64 w A xs)(t:∀p,A=some p->p.block≠g)(u:at'<=1000000000){m:Int}(k:0<m)(E:m<=1000000):
  aa prog 53 [bS g,bN m] w λv w'=>(∃ r:Nat,v=bN r/\(r:Int)<m)/\hp w' g=some (.cells #[.slice A xs.length c,bN ((at'+1:Nat):Int)] 114)/\ad [g] w w':=by
 apply F53_ok;have fin:∀(w0:World),ad [] w w0->∀x:Int,P53_0 (bS g) (bN m) (bN x) w0 λv w'=>(∃ r:Nat,v=bN r/\(r:Int)<m)/\hp w' g=some (.cells #[.slice A xs.length c,bN ((at'+1:Nat):Int)] 114)/\ad [g] w w':=by
  intro w0 e x;apply L53_0_ok;have a:=e.at hb (by simp);have ok:pY (hp w0 g) (0+1+1)=true:=by rw[a];rfl
  have y:(#[Value.slice A xs.length c,bN at'].setIfInBounds (0+1) (bN ((at':Int)+1)))= #[.slice A xs.length c,bN ((at'+1:Nat):Int)]:=by rw[df at' 1];rfl
  simp only[L53_0,zS,rq,ag,a,t2_1,aj,ap (n:=(at':Int)+1) dB dB,gB (w:=w0) (b:=g) (o:=0+1) (v:=bN ((at':Int)+1)) rfl rfl ok,aB,au,y];refine(nH x m _ k dB).step ?_;have f:ad [g] w0 (put w0 g #[.slice A xs.length c,bN ((at'+1:Nat):Int)] 114):=(ad.refl _ _).put (.inl (by simp)) _ _;have z:=Int.emod_nonneg x (b:=m) dB;have B:=Int.emod_lt_of_pos x k;refine⟨⟨(x%m).toNat,by rw[dy z],dB⟩,ar (aD a) _ _,(e.mono (by simp)).trans f⟩
 have l:ad [] w w.drew:=(ad.refl _ _).drew;by_cases d:(at':Int)<xs.length
 ·obtain⟨q,C,D⟩:=(s.drew.drew).at (P:=prog) (c:=c) (j:= .i64) Tryz.underlying22 Tryz.underlying3 aE (i:=(at':Int)) dB d;simp only[F53,zS,fa_114_0,rq,ag,aK,hb,t2_0,t2_1,aQ,d,C,D];exact fin _ l.drew _
 ·simp only[F53,zS,fa_114_0,rq,ag,aK,hb,t2_0,t2_1,aQ,d];exact fin _ l _
def kA:List Int:= [1,1,2,2,2,3,3,5,5,5,6,7,7,8,9,6,4,10,10,11,11,12,0]
theorem c_kinds(w:World):aa prog 97 [] w λv w'=>v= .slice (some ⟨w.heap.size,0,none⟩) 23 23/\hp w' w.heap.size=some (.cells (ints kA).toArray 3)/\ad [] w w':=by
 apply F97_ok;simp only[F97,bs_22_23];exact⟨trivial,by rw[af,bU rfl];rfl,(ad.refl _ _).alloc _⟩
theorem kinds_at:∀r:Nat,r<23->kA.getD r 0=0\/kA.getD r 0=1\/kA.getD r 0=2\/kA.getD r 0=3\/kA.getD r 0=4\/kA.getD r 0=5\/kA.getD r 0=6\/kA.getD r 0=7\/kA.getD r 0=8\/kA.getD r 0=9\/kA.getD r 0=10\/kA.getD r 0=11\/kA.getD r 0=12:=dC
theorem lit_at{w:World}{g n:Nat}{xs:List Int}(h:hp w g=some (.cells (ints xs).toArray 3))(a:n=xs.length){r:Nat}(d:r<n):
  ai prog (Instr.indexAt 22 (.slice (some ⟨g,0,none⟩) n n) (bN r))=some (.pointer (some ⟨g,0+r*1,none⟩))/\an (hp w g) (0+r*1)=some (bN (xs.getD r 0)):=by
 subst a;have:=ia_22 (b:=g) (p:=0) (c:=xs.length) (j:= .i64) (i:=(r:Int)) (n:=xs.length) dB dB;rw[cj]at this;exact⟨this,ints_ld h d⟩
def IsL(w:World)(g:Nat)(v:Value)(L:List (List eu)):Prop:=
 ∃A c vs,v= .slice A L.length c/\fp w A vs/\vs.length=L.length/\(∀ (j:Nat) (x:Value) (ops:List eu),vs[j]? =some x->L[j]? =some ops->∃A' a,x= .slice A' ops.length a/\fp w A' (ops.flatMap cI)/\∀p,A'=some p->p.block≠g)/\∀p,A=some p->p.block≠g
theorem IsL.ao{w w':World}{g:Nat}{v:Value}{L:List (List eu)}(h:IsL w g v L)(a:ad [g] w w'):IsL w' g v L:=by
 obtain⟨A,c,vs,rfl,f,i,k,b⟩:=h;refine⟨A,c,vs,rfl,f.aF a λp hp _=>by simpa using b p hp,i,λj x ops l m=>?_,b⟩;obtain⟨A',n,e,o,d⟩:=k j x ops l m;exact⟨A',n,e,o.aF a λp hp _=>by simpa using d p hp,d⟩
theorem IsL.list{w:World}{g:Nat}{A:Option Addr}{c:Nat}{L:List (List eu)}{vs:List Value}(l:vs.length=L.length)(d:∀(j:Nat) (x:Value) (ops:List eu),vs[j]? =some x->L[j]? =some ops->∃A' a,x= .slice A' ops.length a/\fp w A' (ops.flatMap cI)/\∀p,A'=some p->p.block≠g){i:Nat}(f:i<L.length):
  ∃A' a,vs[i]? =some (.slice A' (L[i]).length a)/\fp w A' ((L[i]).flatMap cI):=by
 obtain⟨x,b⟩:∃x,vs[i]? =some x:=⟨_,bX dB⟩
 obtain⟨A',a,e,k,_⟩:=d i x L[i] b (bX f);exact⟨A',a,by rw[b,e],k⟩
def NameO(o:eu):Prop:=0<=o.2.1/\o.2.1<=63/\0<=o.2.2.1/\o.2.2.1<=999
def ub:List (List eu)->Nat
 | []=>0
 |l::L=>l.length+ub L
theorem tr{L:List (List eu)}{i:Nat}(h:i<L.length):ub (L.take (i+1))=ub (L.take i)+(L[i]).length:=by
 induction L generalizing i with
 |nil=>simp at h
 |cons x xs a=>
  cases i with
  |zero=>simp[ub]
  |succ i=>
   have:=a (i:=i) (by simpa using h);simp[ub,this];omega
theorem tot_take_le(L:List (List eu))(i:Nat):ub (L.take i)<=ub L:=by
 induction L generalizing i with
 |nil=>simp[ub]
 |cons x xs a=>
  cases i with
  |zero=>simp[ub]
  |succ i=>have:=a i;simp[ub];omega
structure AtI(W w:World)(x:Value)(R:List eu):Prop where
 own:w.ownsRow W.heap.size 37 6 x R.length (R.flatMap cI)
 ok:∀o∈R,NameO o
 ch:ad [] W w
theorem l_at1{W:World}{A:Option Addr}{c:Nat}{vs:List Value}{L:List (List eu)}(Z:L.length<=64)(r:∀l∈L,l.length<=1000)(hT:ub L<=100000)(C:fp W A vs)(D:vs.length=L.length){i:Nat}(s:i<L.length){A':Option Addr}{E:Nat}(F:vs[i]? =some (.slice A' (L[i]).length E))(t:fp W A' ((L[i]).flatMap cI)){e:Int}{Q:Value->World->Prop}
  (next:∀w x R,AtI W w x R->R.length<=ub (L.take (i+1))->P98_0 (.slice A L.length c) (bN e) x (bN ((i:Int)+1)) w Q):
  ∀(d j:Nat) (w:World) (x:Value) (R:List eu),AtI W w x R->R.length<=ub (L.take i)+j->j+d=(L[i]).length->
   P98_1 (.slice A L.length c) (bN e) x (bN i) (bN j) w Q:=by
 have f:L[i]∈L:=List.getElem_mem s;have hl:=r _ f;have H:=tot_take_le L (i+1);rw[tr s]at H;intro d;induction d with
 |zero=>
  intro j w x R h I J;apply L98_1_ok;obtain⟨b,o,g,m⟩:=val_at (c:=c) (j:= .i64) (C.ao h.ch.below) D F;have:¬(j:Int)<(L[i]).length:=dB;simp only[L98_1,zS,g,nE,m,mm,this,aj,ap (n:=(i:Int)+1) dB dB];exact next w x R h (by rw[tr s];omega)
 |succ d K=>
  intro j w x R h I J;apply L98_1_ok;obtain⟨b,o,g,m⟩:=val_at (c:=c) (j:= .i64) (C.ao h.ch.below) D F;have a:(j:Int)<(L[i]).length:=dB;have v:j<(L[i]).length:=dB;obtain⟨M,O,G,S,r3,_⟩:=(t.ao h.ch.below).elem (P:=prog) (c:=E) (n:=(L[i]).length) (i:=(j:Int)) (j:= .i64) Tryz.underlying116 nC dB (by rw[gL qp];exact cy _) dB a;have r0:=S 0 dB;rw[cj,flat_get qp (L[i]) j v 0 dB]at r0;have r0:an (hp w M) (O+0)=some (bN (L[i])[j].1):=r0;have two:∀w' x' p,AtI W w' x' p->p.length<=R.length+1->P98_2 (.slice A L.length c) (bN e) x' (bN i) (bN j) w' Q:=λw' x' p T U=>by
   apply L98_2_ok;simp only[L98_2,zS,aj,ap (n:=(j:Int)+1) dB dB];have:=K (j+1) w' x' p T dB dB;rw[df j 1]at this;exact this
  by_cases q:(L[i])[j].1=e
  ·have y:((L[i])[j].1==e)=true:=by rw[q];simp
   have z:ai prog (Instr.build 37 #[(1,bN i),(2,bN j)])=some (.agg (cI (0,(i:Int),(j:Int),0,0,0)).toArray):=bd_37_1_2;simp only[L98_1,zS,g,nE,m,mm,a,G,am,ag,r0,y,z];refine ps_116 (λu V=>List.all_eq_true.1 (show(cI (0,(i:Int),(j:Int),0,0,0)).all (·.oneCell')=true from rfl) u V) h.own dB h.ch.size λx' w' B X Y=>?_;refine two w' x' (R++ [(0,(i:Int),(j:Int),0,0,0)]) ⟨by rw[cq,flat_snoc];exact B,λo B=>?_,h.ch.grown X λk q=> .inr (h.own.lt k q).1⟩ (by simp);rcases List.mem_append.1 B with h1|h1
   ·exact h.ok o h1
   ·simp at h1;subst h1;exact⟨by simp only;omega,by simp only;omega,by simp only;omega,by simp only;omega⟩
  ·simp only[L98_1,zS,g,nE,m,mm,a,G,am,ag,r0,aW q];exact two w x R h dB
theorem c_at{w:World}{g:Nat}{v:Value}{L:List (List eu)}(h:IsL w g v L)(q:L.length<=64)(e:∀l∈L,l.length<=1000)(hT:ub L<=100000)(n:Int):
  aa prog 98 [v,bN n] w λr w'=>∃R,AtI w w' r R/\R.length<=100000:=by
 obtain⟨A,c,vs,rfl,s,p,t,G⟩:=h;apply F98_ok;simp only[F98];have a:∀(d i:Nat) (w1:World) (x:Value) (R:List eu),AtI w w1 x R->R.length<=ub (L.take i)->i+d=L.length->
   P98_0 (.slice A L.length c) (bN n) x (bN i) w1 λr w'=>∃R,AtI w w' r R/\R.length<=100000:=by
  intro d;induction d with
  |zero=>
   intro i w1 x R f u y;apply L98_0_ok;have:¬(i:Int)<L.length:=dB;simp only[L98_0,zS,tI,this];exact⟨R,f,by have:=tot_take_le L i;omega⟩
  |succ d z=>
   intro i w1 x R f u y;apply L98_0_ok;have j:(i:Int)<L.length:=dB;have b:i<L.length:=dB;obtain⟨A',H,B,C⟩:=IsL.list (A:=A) (c:=c) p t b;simp only[L98_0,zS,tI,j];refine l_at1 (c:=c) q e hT s p b B C (λw2 D E k m=>?_) (L[i]).length 0 w1 x R f dB dB;have:=z (i+1) w2 D E k m dB;rw[df i 1]at this;exact this
 exact a L.length 0 w _ [] ⟨World.ownsRow_nil _ _ _ _,λo F=>by simp at F,ad.refl _ _⟩ (by simp) dB
def oZero:eu:=(0,0,0,0,0,0)
def WfO'(o:eu):Prop:=(0<=o.2.2.2.2.1/\o.2.2.2.2.1<18446744073709551616)/\(0<=o.2.2.2.2.2/\o.2.2.2.2.2<18446744073709551616)
def GenO(o:eu):Prop:=(o=oZero\/jR o=true)/\WfO' o
theorem mayO_of{k f a n v w:Int}(b:1<=k)(c:k<=12)(d:0<=f/\f<=frM k)(e:0<=a/\a<=atM k)(g:0<=n/\n<=nM k)(hv:vB k=true\/v=0)(i:wB k=true\/w=0):jR (k,f,a,n,v,w)=true:=
 cr ⟨⟨b,c⟩,d,e,g,hv,i⟩
def Half(o:eu):Prop:=(1<=o.1/\o.1<=12)/\frM o.1=63/\atM o.1=999/\(0<=o.2.2.2.1/\o.2.2.2.1<=nM o.1)/\(vB o.1=true\/o.2.2.2.2.1=0)/\(wB o.1=true\/o.2.2.2.2.2=0)/\WfO' o
structure Env(W:World)(q:Nat)(A:Option Addr)(xs:List Int)(x1:Value)(L:List (List eu)):Prop where
 hA:sZ .i64 W A xs
 hne:∀p,A=some p->p.block≠q
 il:IsL W q x1 L
 qW:q<W.heap.size
 hL:L.length<=64
 hll:∀l∈L,l.length<=1000
 hT:ub L<=100000
structure Gen(W w:World)(q g4 g6:Nat)(A:Option Addr)(c:Nat)(xs:List Int)(a0 at':Nat)(o:eu):Prop where
 sq:hp w q=some (.cells #[.slice A xs.length c,bN at'] 114)
 h4:hp w g4=some (.cells (cI oZero).toArray 37)
 h6:hp w g6=some (.cells (cI o).toArray 37)
 ne:g4≠g6
 g4W:W.heap.size<=g4
 g6W:W.heap.size<=g6
 ch:ad [q] W w
 at1:a0<=at'
 at2:at'<=900000000
def GenP(W:World)(q:Nat)(A:Option Addr)(c:Nat)(xs:List Int)(a0 m:Nat)(v:Value)(w':World):Prop:=∃o at',v= .agg (cI o).toArray/\GenO o/\hp w' q=some (.cells #[.slice A xs.length c,bN ((at':Nat):Int)] 114)/\a0<=at'/\at'<=a0+m/\ad [q] W w'
section
variable{W w:World}{q g4 g6:Nat}{A:Option Addr}{c:Nat}{xs:List Int}{a0 at':Nat}{o:eu}{x1:Value}{L:List (List eu)}
theorem Gen.next(E:Env W q A xs x1 L)(h:Gen W w q g4 g6 A c xs a0 at' o)(b:at'+1<=900000000){m:Int}(d:0<m)(e:m<=1000000){K:Value->World->Prop}(f:∀(r:Nat) w',(r:Int)<m->Gen W w' q g4 g6 A c xs a0 (at'+1) o->ad [q] w w'->K (bN r) w'):
  aa prog 53 [bS q,bN m] w K:=by
 refine(c_SeqN h.sq (sZ.aF E.hA h.ch λp hp=>by simpa using E.hne p hp) E.hne (by have:=h.at2;omega) d e).mono ?_;rintro v w' ⟨⟨r,rfl,g⟩,i,a⟩;have j:g4≠q:=by have:=h.g4W;have:=E.qW;omega
 have k:g6≠q:=by have:=h.g6W;have:=E.qW;omega
 exact f r w' g ⟨i,a.at h.h4 (by simpa using j),a.at h.h6 (by simpa using k),h.ne,h.g4W,h.g6W,h.ch.trans a,by have:=h.at1;omega,b⟩ a
theorem Gen.grow(h:Gen W w q g4 g6 A c xs a0 at' o){w':World}(a:ad [] w w'):Gen W w' q g4 g6 A c xs a0 at' o:=
 ⟨a.at h.sq (by simp),a.at h.h4 (by simp),a.at h.h6 (by simp),h.ne,h.g4W,h.g6W,h.ch.trans (a.mono (by simp)),h.at1,h.at2⟩
theorem Gen.set(E:Env W q A xs x1 L)(h:Gen W w q g4 g6 A c xs a0 at' o)(o':eu):Gen W (put w g6 (cI o').toArray 37) q g4 g6 A c xs a0 at' o':=
 ⟨by rw[bj (by have:=h.g6W;have:=E.qW;omega)];exact h.sq,by rw[bj h.ne];exact h.h4,ar (aD h.h6) _ _,h.ne,h.g4W,h.g6W,h.ch.put (.inr h.g6W) _ _,h.at1,h.at2⟩
theorem Gen.ans(E:Env W q A xs x1 L)(h:Gen W w q g4 g6 A c xs a0 at' o)(d:GenO o){m:Nat}(e:at'<=a0+m):mV (gi prog 37 (bS g6) w) λa=>
  ck prog (Instr.storeAt 37 (bS g4) a) w λw=>
  mV (gi prog 37 (bS g4) w) λf=>GenP W q A c xs a0 m f w:=by
 have b:=aR td (show(Tryz.prog.info? 37).map (·.size)=some (cI o).toArray.size from nC) h.h6;rw[b,ac,st_37 (by rfl) (by rfl) (by rw[h.h4];rfl) (by rw[h.h4];rfl),h.h4,au];have g:hp (put w g4 (cI o).toArray 37) g4=some (.cells (cI o).toArray 37):=ar (aD h.h4) _ _;rw[aR td (show(Tryz.prog.info? 37).map (·.size)=some (cI o).toArray.size from nC) g,ac];exact⟨o,at',rfl,d,by rw[bj (by have:=h.g4W;have:=E.qW;omega)];exact h.sq,h.at1,e,h.ch.put (.inr h.g4W) _ _⟩
theorem Gen.five(E:Env W q A xs x1 L)(h:Gen W w q g4 g6 A c xs a0 at' o)(a:GenO o){m:Nat}(b:at'<=a0+m):P57_5 (bS g4) (bS g6) w (GenP W q A c xs a0 m):=by
 apply L57_5_ok;exact h.ans E a b
theorem Gen.st(h:Gen W w q g4 g6 A c xs a0 at' o){i:Nat}(a:i<3)(x:Int){K:World->Prop}:
  ck prog (Instr.storeAt 3 (.pointer (some ⟨g6,0+(i+1),none⟩)) (bN x)) w K=K (put w g6 ((cI o).toArray.setIfInBounds (0+(i+1)) (bN x)) 37):=by
 rw[gB (w:=w) (b:=g6) (o:=0+(i+1)) (v:=bN x) rfl rfl (by rw[h.h6];rcases i with _|_|_|i<;>first|rfl|omega),h.h6,au,aB]
theorem Gen.stu(h:Gen W w q g4 g6 A c xs a0 at' o){i:Nat}(a:i<2)(x:Int){K:World->Prop}:
  ck prog (Instr.storeAt 33 (.pointer (some ⟨g6,0+(i+4),none⟩)) (bR x)) w K=K (put w g6 ((cI o).toArray.setIfInBounds (0+(i+4)) (bR x)) 37):=by
 rw[nG (w:=w) (b:=g6) (o:=0+(i+4)) (v:=bR x) rfl rfl (by rw[h.h6];rcases i with _|_|i<;>first|rfl|omega),h.h6,au,aB]
theorem set_1(k f a n v u x:Int):((cI (k,f,a,n,v,u)).toArray.setIfInBounds (0+1) (bN x))=(cI (k,x,a,n,v,u)).toArray:=rfl
theorem set_2(k f a n v u x:Int):((cI (k,f,a,n,v,u)).toArray.setIfInBounds (0+2) (bN x))=(cI (k,f,x,n,v,u)).toArray:=rfl
theorem set_3(k f a n v u x:Int):((cI (k,f,a,n,v,u)).toArray.setIfInBounds (0+3) (bN x))=(cI (k,f,a,x,v,u)).toArray:=rfl
theorem set_4(k f a n v u x:Int):((cI (k,f,a,n,v,u)).toArray.setIfInBounds (0+4) (bR x))=(cI (k,f,a,n,x,u)).toArray:=rfl
theorem set_5(k f a n v u x:Int):((cI (k,f,a,n,v,u)).toArray.setIfInBounds (0+5) (bR x))=(cI (k,f,a,n,v,x)).toArray:=rfl
theorem half_done{k f a n v u:Int}(h:Half (k,f,a,n,v,u)){f' a':Int}(l:0<=f'/\f'<=63)(m:0<=a'/\a'<=999):GenO (k,f',a',n,v,u):=by
 obtain⟨b,c,d,e,g,i,j⟩:=h;simp only at b c d e g i j;exact⟨.inr (mayO_of b.1 b.2 (by rw[c];exact l) (by rw[d];exact m) e g i),j⟩
theorem Gen.four(E:Env W q A xs x1 L)(h:Gen W w q g4 g6 A c xs a0 at' o)(ho:Half o)(a3:at'+4<=900000000){m:Nat}(hm:at'+4<=a0+m)(want:Int):P57_4 (bS q) x1 (bS g4) (bS g6) (bN want) w (GenP W q A c xs a0 m):=by
 apply L57_4_ok;simp only[L57_4];refine(c_at (E.il.ao h.ch) E.hL E.hll E.hT want).mono ?_;rintro r w1 ⟨R,y,a4⟩;obtain⟨B,cB,rfl,hB⟩:=aT y.own;have h1:=h.grow y.ch;obtain⟨k,f,a,n,v,u⟩:=o;have g:∀w2 l,Gen W w2 q g4 g6 A c xs a0 l (k,f,a,n,v,u)->l<=at'+2->aa prog 53 [bS q,bN 5] w2 λP w=>
   aa prog 53 [bS q,bN 9] w λQ w=>
   ck prog (Instr.storeAt 3 (.pointer (some ⟨g6,0+1,none⟩)) P) w λw=>
   ck prog (Instr.storeAt 3 (.pointer (some ⟨g6,0+2,none⟩)) Q) w λw=>
   mV (gi prog 37 (bS g6) w) λS=>
   ck prog (Instr.storeAt 37 (bS g4) S) w λw=>
   mV (gi prog 37 (bS g4) w) λT=>GenP W q A c xs a0 m T w:=by
  intro w2 l K a2;refine K.next E dB dC dC λx d U z _=>?_
  refine z.next E dB dC dC λT w4 a5 h4 _=>?_
  rw[h4.st (i:=0) dB,set_1];have M:=h4.set E (k,x,a,n,v,u);rw[M.st (i:=1) dB,set_2];exact(M.set E (k,x,T,n,v,u)).ans E (half_done ho dB dB) dB
 by_cases hz:R.length=0
 ·have s:((R.length:Int)==0)=true:=by rw[hz];rfl
  simp only[zS,mm,s,iA,iB];exact g w1 _ h1 dB
 have s:((R.length:Int)==0)=false:=by simp;simpa using hz
 simp only[zS,mm,s];refine h1.next E dB dC dC λr2 w2 a6 K c2=>?_
 simp only[zS,iA,iB];by_cases C:(r2:Int)=0
 ·have e:((r2:Int)==0)=true:=by rw[C];rfl
  simp only[zS,e];exact g w2 _ K dB
 simp only[zS,aW C];refine K.next E dB dB dB λx d U z c3=>?_
 have V:ad [q] w1 d:=c2.trans c3;have hq:q<w1.heap.size:=de E.qW (by have:=h.ch.size;have:=y.ch.size;omega);have X:fp d B (R.flatMap cI):=hB.1.aF V λp hp _=>by
  have:=(y.own.lt p.block (by rw[hp];rfl)).1;have:=E.qW;have:=h.ch.size;simp;omega
 have D:x<R.length:=dB;obtain⟨b,o',q1,q2⟩:=op_at (c:=cB) (j:= .i64) (i:=x) X D;have O:=y.ok _ (List.getElem_mem D);generalize R[x]=e at*;simp only[zS,q1,q2,al_37];rw[st_37 (by rfl) (by rfl) (by rw[af,bU rfl];rfl) (by rw[af,bU rfl];rfl),af,bU rfl];simp only[au];generalize t:d.alloc _=F;have G:ad [] d F:=by rw[<- t];exact(ad.refl _ _).alloc _
 have Y:F.heap.size=d.heap.size+1:=by rw[<- t];simp
 have H:ad [] d (put F d.heap.size (cI e).toArray 37):=G.put (.inr (cy _)) _ _;have h8:hp (put F d.heap.size (cI e).toArray 37) d.heap.size=some (.cells (cI e).toArray 37):=by rw[bm,bU rfl,bU dB]
 have M:=z.grow H;have n6:d.heap.size≠g6:=by have:=aD z.h6;omega
 clear t G Y H z q1 q2;generalize put F d.heap.size (cI e).toArray 37=Z at*;generalize d.heap.size=g8 at*;have I:hp Z.drew g8=some (.cells (cI e).toArray 37):=h8;have J:Gen W Z.drew q g4 g6 A c xs a0 (at'+1+1) (k,f,a,n,v,u):=M.grow (ad.refl _ _).drew;have h6:=J.set E (k,e.2.1,a,n,v,u);have a1:hp (put Z.drew g6 (cI (k,e.2.1,a,n,v,u)).toArray 37) g8=some (.cells (cI e).toArray 37):=by rw[bj n6];exact I
 have h7:=h6.set E (k,e.2.1,e.2.2.1,n,v,u);have fin:=h7.five E (half_done ho (f':=e.2.1) (a':=e.2.2.1) ⟨O.1,O.2.1⟩ ⟨O.2.2.1,O.2.2.2⟩) (m:=m) dB;simp only[iA,iB,ag,I,op_1,op_2,zS,J.st (i:=0) dB,set_1,h6.st (i:=1) dB,set_2,a1];exact⟨fin,fin⟩
end
section
variable{W w:World}{q g4 g6:Nat}{A:Option Addr}{c:Nat}{xs:List Int}{a0 at':Nat}{o:eu}{x1:Value}{L:List (List eu)}
theorem Gen.three(E:Env W q A xs x1 L)(h:Gen W w q g4 g6 A c xs a0 at' o)(d:Half o)(g:at'+5<=900000000){m:Nat}(y:at'+5<=a0+m)(want:Int):P57_3 (bS q) x1 (bS g4) (bS g6) (bN want) w (GenP W q A c xs a0 m):=by
 apply L57_3_ok;by_cases b:o.1=9
 ·simp only[L57_3,zS,am,mh,ag,h.h6,aJ,b];refine h.next E dB dC dC λr w1 z e B=>?_
  obtain⟨k,f,a,n,v,u⟩:=o;simp only[zS,kX,nr (n:=(r:Int)) dB dB];rw[e.stu (i:=1) dB,set_5];obtain⟨j,l,p,s,t,C,x⟩:=d;simp only at b;exact(e.set E (k,f,a,n,v,r)).four E ⟨j,l,p,s,t,.inl (by simp[wB,b]),x.1,by simp only;omega⟩ dB dB want
 ·simp only[L57_3,zS,am,ag,h.h6,aJ,aW b];exact h.four E d dB dB want
theorem Gen.one(E:Env W q A xs x1 L)(h:Gen W w q g4 g6 A c xs a0 at' o)(p:Half o)(t:at'+6<=900000000){m:Nat}(F:at'+6<=a0+m)(want:Int):P57_1 (bS q) x1 (bS g4) (bS g6) (bN want) w (GenP W q A c xs a0 m):=by
 apply L57_1_ok;have b:vB o.1=true->aa prog 53 [bS q,bN 3] w λd w=>
   mV (ai prog (convert 3 33 d)) λe=>
   ck prog (Instr.storeAt 33 (.pointer (some ⟨g6,0+4,none⟩)) e) w λw=>
   P57_3 (bS q) x1 (bS g4) (bS g6) (bN want) w (GenP W q A c xs a0 m):=by
  intro kv;refine h.next E dB dC dC λr w1 G s H=>?_
  obtain⟨k,f,a,n,v,u⟩:=o;simp only[zS,kX,nr (n:=(r:Int)) dB dB];rw[s.stu (i:=0) dB,set_4];obtain⟨x,y,z,B,I,C,D⟩:=p;exact(s.set E (k,f,a,n,r,u)).three E ⟨x,y,z,B,.inl kv,C,by simp only;omega,D.2⟩ dB dB want
 by_cases g:o.1=7
 ·simp only[L57_1,zS,am,fr,ag,h.h6,aJ,g];exact b (by rw[g];rfl)
 by_cases j:o.1=8
 ·simp only[L57_1,zS,am,fr,ag,h.h6,aJ,j,Int.reduceBEq];exact b (by rw[j];rfl)
 by_cases l:o.1=9
 ·simp only[L57_1,zS,am,fr,ag,h.h6,aJ,l,Int.reduceBEq];exact b (by rw[l];rfl)
 simp only[L57_1,zS,am,fr,ag,h.h6,aJ,aW g,aW j,aW l];exact h.three E p dB dB want
def list9:List Int:= [1,2,3,5,8,9,16,17,0]
theorem list9_at:∀r:Nat,r<9->0<=list9.getD r 0/\list9.getD r 0<=17:=dC
theorem wfo0(k n:Int):WfO' (k,0,0,n,0,0):=⟨⟨dm 0,by show(0:Int)<_;omega⟩,dm 0,by show(0:Int)<_;omega⟩
theorem mayO0{k:Int}(a:1<=k)(b:k<=12){n:Int}(c:0<=n)(d:n<=nM k):GenO (k,0,0,n,0,0):=
 ⟨.inr (mayO_of a b ⟨dB,by rw[frM];split<;>omega⟩ ⟨dB,by rw[atM];split<;>omega⟩ ⟨c,d⟩ (.inr rfl) (.inr rfl)),wfo0 k n⟩
theorem genO0{k:Int}(a:k=0\/1<=k/\k<=12):GenO (k,0,0,0,0,0):=by
 rcases a with rfl|⟨b,c⟩
 ·exact⟨.inl rfl,wfo0 0 0⟩
 ·exact mayO0 b c dB (by rw[nM];repeat' (split;first|omega|skip);all_goals omega)
theorem half0{k n:Int}(d:k=2\/k=5\/k=10\/k=12\/6<=k/\k<=9)(b:0<=n)(c:n<=nM k):Half (k,0,0,n,0,0):=by
 have a:gu k≠0:=by
  rw[gu];split
  ·omega
  ·split
   ·omega
   ·split<;>omega
 exact⟨⟨by simp only;omega,by simp only;omega⟩,by simp[frM,a],by simp[atM,a],⟨b,c⟩,.inr rfl,.inr rfl,wfo0 k n⟩
theorem nM_b{k:Int}(h:nB k=true)(a:k≠1):nM k=65535:=by simp[nM,a,h]
theorem Gen.zero(E:Env W q A xs x1 L){k:Int}(B:k=0\/1<=k/\k<=12)(C:k≠1)(h:Gen W w q g4 g6 A c xs a0 at' (k,0,0,0,0,0))(D:at'+7<=900000000){m:Nat}(F:at'+7<=a0+m){b:Bool}(hb:b=decide (6<=k/\k<=9)):P57_0 (bS q) x1 (bS g4) (bS g6) (bN 1) (bN k) (.bool b) w (GenP W q A c xs a0 m):=by
 apply L57_0_ok;by_cases f:6<=k/\k<=9
 ·have d:b=true:=by rw[hb];simp[f]
  subst d;simp only[L57_0,zS];refine h.next E dB dC dC λr w1 x y p=>?_
  simp only[zS,bc];rw[y.st (i:=2) dB,set_3];have G:nM k=65535:=nM_b (by simp[nB];omega) dB;exact(y.set E (k,0,0,r,0,0)).one E (half0 dB dB dB) dB dB 2
 have d:b=false:=by rw[hb];simp[f]
 subst d;by_cases k2:k=2
 ·subst k2;simp only[L57_0,zS,bs_22_9];generalize g:w.alloc _=w1;have p:ad [] w w1:=by rw[<- g];exact(ad.refl _ _).alloc _
  have t:hp w1 w.heap.size=some (.cells (ints list9).toArray 3):=by rw[<- g,af,bU rfl];rfl
  refine(h.grow p).next E dB dC dC λr w2 x s u=>?_
  have v:w.heap.size≠q:=by have:=E.qW;have:=h.ch.size;omega
  have e:=u.at t (by simpa using v);have a:r<9:=dB;have j:=lit_at e (n:=9) rfl a;have lb:=list9_at r a;simp only[zS,j.1,ag,j.2,bc];rw[s.st (i:=2) dB,set_3];exact(s.set E (2,0,0,list9.getD r 0,0,0)).one E (half0 dB dB (by rw[nM_b (by rfl) dC];omega)) dB dB 1
 by_cases z:k=5
 ·subst z;simp only[L57_0,zS,bs_22_2,Int.reduceBEq];generalize g:w.alloc _=w1;have p:ad [] w w1:=by rw[<- g];exact(ad.refl _ _).alloc _
  have t:hp w1 w.heap.size=some (.cells (ints [1,2]).toArray 3):=by rw[<- g,af,bU rfl];rfl
  refine(h.grow p).next E dB dC dC λr w2 x s u=>?_
  have v:w.heap.size≠q:=by have:=E.qW;have:=h.ch.size;omega
  have e:=u.at t (by simpa using v);have a:r<2:=dB;have j:=lit_at e (n:=2) rfl a;simp only[zS,j.1,ag,j.2];exact s.one E (half0 dB dB (by rw[nM];repeat' (split;first|omega|skip);all_goals omega)) dB dB _
 have two:∀b:Bool,(b=true->k=10\/k=12)->P57_2 (bS q) x1 (bS g4) (bS g6) (.bool b) w (GenP W q A c xs a0 m):=by
  intro b hb;apply L57_2_ok;cases b with
  |true=>
   simp only[L57_2,zS];exact h.one E (half0 (by have:=hb rfl;omega) dB (by rw[nM];repeat' (split;first|omega|skip);all_goals omega)) dB dB 1
  |false=>
   simp only[L57_2,bf];exact h.ans E (genO0 B) dB
 by_cases l:k=10
 ·subst l;simp only[L57_0,zS];exact two true λ_=> .inl rfl
 by_cases o:k=12
 ·subst o;simp only[L57_0,zS];exact two true λ_=> .inr rfl
 simp only[L57_0,zS,aW k2,aW z,aW l,aW o];exact two false λh=>by cases h
end
theorem opC0(k:Int):(#[Value.int .i64 k,bN 0,bN 0,bN 0,bR 0,bR 0]:Array Value)=(cI (k,0,0,0,0,0)).toArray:=rfl
theorem c_genOp{W:World}{q:Nat}{A:Option Addr}{c:Nat}{xs:List Int}{a0:Nat}{x1:Value}{L:List (List eu)}(E:Env W q A xs x1 L)(O:hp W q=some (.cells #[.slice A xs.length c,bN (a0:Int)] 114))(S:a0<=800000000):
  aa prog 57 [bS q,x1] W (GenP W q A c xs a0 12):=by
 apply F57_ok;simp only[F57,al_37];generalize s:W.alloc _=w1;have t:ad [] W w1:=by rw[<- s];exact(ad.refl _ _).alloc _
 have T:w1.heap.size=W.heap.size+1:=by rw[<- s];simp
 have P:hp w1 W.heap.size=some (.cells (cI oZero).toArray 37):=by rw[<- s,af,bU rfl];rfl
 clear s;refine(c_kinds w1).mono ?_;rintro _ w2 ⟨rfl,v,e⟩;simp only[zS,aQ];have C:Env w2 q A xs x1 L:=⟨E.hA.ao (t.trans e).below,E.hne,E.il.ao ((t.trans e).mono (by simp)),by have:=E.qW;have:=e.size;omega,E.hL,E.hll,E.hT⟩
 refine(c_SeqN ((t.trans e).at O (by simp)) C.hA C.hne dB (m:=23) dC dC).mono ?_;rintro _ b ⟨⟨r,rfl,U⟩,w,u⟩;have Q:w1.heap.size≠q:=by have:=E.qW;omega
 have x:W.heap.size≠q:=by have:=E.qW;omega
 have l:r<23:=dB;have D:=lit_at (u.at v (by simpa using Q)) (n:=23) rfl l;have lb:=kinds_at r l;have y:=u.at (e.at P (by simp)) (by simpa using x);have V:W.heap.size+1<=b.heap.size:=by have:=e.size;have:=u.size;omega
 have z:ad [q] W b:=((t.trans e).mono (by simp)).trans u;generalize kA.getD r 0=k at*;simp only[zS,D.1,ag,D.2,bd_37_0];rw[st_37 (by rfl) (by rfl) (by rw[af,bU rfl];rfl) (by rw[af,bU rfl];rfl),af,bU rfl,opC0 k];simp only[au];generalize f:b.alloc _=j;have o:ad [] b j:=by rw[<- f];exact(ad.refl _ _).alloc _
 have B:j.heap.size=b.heap.size+1:=by rw[<- f];simp
 have d:ad [] b (put j b.heap.size (cI (k,0,0,0,0,0)).toArray 37):=o.put (.inr (cy _)) _ _;have g:hp (put j b.heap.size (cI (k,0,0,0,0,0)).toArray 37) b.heap.size=some (.cells (cI (k,0,0,0,0,0)).toArray 37):=by rw[bm,bU rfl,bU dB]
 have G:Gen W (put j b.heap.size (cI (k,0,0,0,0,0)).toArray 37) q W.heap.size b.heap.size A c xs a0 (a0+1) (k,0,0,0,0,0):=
  ⟨d.at w (by simp),d.at y (by simp),g,dB,cy _,dB,z.trans (d.mono (by simp)),dB,dB⟩
 clear f o B d;generalize put j b.heap.size (cI (k,0,0,0,0,0)).toArray 37=X at*;have p:k=0\/1<=k/\k<=12:=dB;have a:(cI (k,0,0,0,0,0)).toArray[0+0]? =some (bN k):=rfl;by_cases k1:k=1
 ·subst k1;simp only[zS,am,ag,g,a,Int.reduceBEq];refine G.next E (m:=4) dB dC dC λF Y R H Z=>?_
  simp only[zS,bc];rw[H.st (i:=2) dB,set_3];exact(H.set E (1,0,0,F,0,0)).ans E (mayO0 dC dC dB (by show(F:Int)<=nM 1;rw[nM,bU rfl];omega)) dB
 by_cases I:k=6
 ·subst I;simp only[zS,am,ag,g,a,Int.reduceBEq];exact G.zero (m:=12) (at':=a0+1) E p k1 dB dB rfl
 by_cases J:k=7
 ·subst J;simp only[zS,am,ag,g,a,Int.reduceBEq];exact G.zero (m:=12) (at':=a0+1) E p k1 dB dB rfl
 by_cases K:k=8
 ·subst K;simp only[zS,am,ag,g,a,Int.reduceBEq];exact G.zero (m:=12) (at':=a0+1) E p k1 dB dB rfl
 by_cases M:k=9
 ·subst M;simp only[zS,am,ag,g,a,Int.reduceBEq];exact G.zero (m:=12) (at':=a0+1) E p k1 dB dB rfl
 simp only[zS,am,ag,g,a,aW k1,aW I,aW J,aW K,aW M];exact G.zero (m:=12) (at':=a0+1) E p k1 dB dB (bZ dB).symm
def nilS:Value:= .slice none 0 0
theorem chg_own{w w':World}{x:Value}(a:w.grownBy w' x.ownBlock):ad x.ownBlock.toList w w':=(ad.refl _ _).grown a λk b=> .inl (by simp[b])
structure LL(w:World)(B:Nat)(vs:List Value)(L:List (List eu)):Prop where
 hb:hp w B=some (.cells vs.toArray 116)
 len:vs.length=L.length
 own:∀(j:Nat) (x:Value) (ops:List eu),vs[j]? =some x->L[j]? =some ops->w.ownsRow (B+1) 37 6 x ops.length (ops.flatMap cI)
 dis:∀(i j:Nat) (x y:Value) (k:Nat),i≠j->vs[i]? =some x->vs[j]? =some y->x.ownBlock=some k->y.ownBlock=some k->False
theorem LL.ao{w w':World}{B:Nat}{vs:List Value}{L:List (List eu)}(h:LL w B vs L){S:List Nat}(b:ad S w w')(c:∀k∈S,k<B):LL w' B vs L:=
 ⟨b.at h.hb (λa=>by have:=c _ a;omega),h.len,λj x ops d e=>bM (h.own j x ops d e) b λk f a=>by have:=((h.own j x ops d e).lt k f).1;have:=c _ a;omega,h.dis⟩
theorem LL.il{w:World}{B:Nat}{vs:List Value}{L:List (List eu)}(h:LL w B vs L){q n:Nat}(l:q<B)(b:n=L.length):IsL w q (.slice (some ⟨B,0,none⟩) n n) L:=by
 subst b;refine⟨_,_,vs,rfl,λj u a=>⟨_,rfl,?_⟩,h.len,λj x ops c d=>?_,λp hp=>by cases hp;simp;omega⟩
 ·have e:=(bY.1 a).1;rw[<- a,eL];show w.cell? ⟨B,0+j,none⟩=_;rw[fT,h.hb,aN];simp
 ·obtain⟨A',f,g,i,k,_⟩:=aT (h.own j x ops c d);exact⟨A',f,g,i,λp hp=>by have:=(k p hp).1;omega⟩
theorem getElem?_set'{α:Type}{l:List α}{i j:Nat}{a b:α}(h:(l.set i a)[j]? =some b):(i=j/\a=b)\/(i≠j/\l[j]? =some b):=by
 rw[cR]at h;split at h
 ·split at h
  ·rename_i e _;cases h;exact .inl ⟨e,rfl⟩
  ·cases h
 ·rename_i e;exact .inr ⟨e,h⟩
theorem LL.push{w w':World}{B:Nat}{vs:List Value}{L:List (List eu)}(h:LL w B vs L){i:Nat}{x x':Value}{ops:List eu}(s:vs[i]? =some x)(H:L[i]? =some ops)(o:eu)(q:w'.ownsRow (B+1) 37 6 x' (ops.length+1) (ops.flatMap cI++cI o))(I:w.grownBy w' x.ownBlock)(A:hI w x x'):
  LL (put w' B (vs.set i x').toArray 116) B (vs.set i x') (L.set i (ops++ [o])):=by
 have C:=chg_own I;have t:hp w' B=some (.cells vs.toArray 116):=C.at h.hb (λu=>by have:=((h.own i x ops s H).lt B (by simpa using u)).1;omega);have D:ad [B] w' (put w' B (vs.set i x').toArray 116):=(ad.refl _ _).put (.inl (by simp)) _ _;have E:∀{w0:World} {y:Value} {n:Nat} {zs:List Value},w0.ownsRow (B+1) 37 6 y n zs->∀k,y.ownBlock=some k->k∉ [B]:=λc k v=>by have:=(c.lt k v).1;simp;omega
 refine⟨ar (aD t) _ _,by simp[h.len],λj y p c d=>?_,?_⟩
 ·rcases getElem?_set' c with⟨rfl,rfl⟩|⟨g,c⟩
  ·have:p=ops++ [o]:=by
    rcases getElem?_set' d with⟨_,e⟩|⟨g,_⟩
    ·exact e.symm
    ·exact absurd rfl g
   subst this;rw[cq,flat_snoc];exact bM q D (E q)
  ·rcases getElem?_set' d with⟨e,_⟩|⟨_,d⟩
   ·exact absurd e g
   ·have h1:=h.own j y p c d;have F:=bM h1 C λk v u=>h.dis i j x y k g s c (by simpa using u) v;exact bM F D (E F)
 ·intro a b y z k r c m f l;have old:∀{j:Nat} {y:Value},i≠j->vs[j]? =some y->y.ownBlock=some k->k<w.heap.size:=fun{j y} J c f=>by
   obtain⟨p,d⟩:∃p,L[j]? =some p:=⟨_,bX (by have:=(bY.1 c).1;have:=h.len;omega)⟩
   exact((h.own j y p c d).lt k f).2
  rcases getElem?_set' c with⟨rfl,rfl⟩|⟨G,c⟩
  ·rcases getElem?_set' m with⟨e,_⟩|⟨hb,m⟩
   ·exact r e
   ·rcases A k f with h1|h1
    ·exact h.dis i b x z k hb s m h1 l
    ·have:=old hb m l;omega
  ·rcases getElem?_set' m with⟨rfl,rfl⟩|⟨hb,m⟩
   ·rcases A k l with h1|h1
    ·exact h.dis i a x y k G s c h1 f
    ·have:=old G c f;omega
   ·exact h.dis a b y z k r c m f l
theorem tot_set{L:List (List eu)}{i:Nat}{ops:List eu}(h:L[i]? =some ops)(o:eu):ub (L.set i (ops++ [o]))=ub L+1:=by
 induction L generalizing i with
 |nil=>simp at h
 |cons x xs a=>
  cases i with
  |zero=>simp at h;subst h;simp[ub];omega
  |succ i=>have:=a (i:=i) (by simpa using h);simp[ub,this];omega
theorem tot_ge{L:List (List eu)}{ops:List eu}(h:ops∈L):ops.length<=ub L:=by
 induction L with
 |nil=>simp at h
 |cons x xs a=>
  rcases cV.1 h with rfl|h
  ·simp[ub]
  ·have:=a h;simp[ub];omega
theorem LL.nils{w:World}{B n:Nat}(h:hp w B=some (.cells (List.replicate n nilS).toArray 116)):LL w B (List.replicate n nilS) (List.replicate n []):=by
 refine⟨h,by simp,λj x ops a d=>?_,λi j x y k e a l b f=>?_⟩
 ·have c:=List.eq_of_mem_replicate (cD a);have g:=List.eq_of_mem_replicate (cD d);subst c;subst g;exact World.ownsRow_nil _ _ _ _
 ·have c:=List.eq_of_mem_replicate (cD a);subst c;cases b
theorem tot_nils(n:Nat):ub (List.replicate n [])=0:=by
 induction n with
 |zero=>rfl
 |succ n a=>rw[List.replicate_succ];simp[ub,a]
theorem chgT{S T:List Nat}{a b c:World}(h:ad S a b)(k:ad T b c)(hT:∀t∈T,t∈S\/a.heap.size<=t):ad S a c:=
 ⟨k.os.trans h.os,k.tape.trans h.tape,k.output.trans h.output,cU h.size k.size,λi d e=>(k.block i (de d h.size) λf=>by rcases hT i f with h1|h1;exact e h1;omega).trans (h.block i d e)⟩
structure GI(W w:World)(q B n:Nat)(A:Option Addr)(c:Nat)(xs:List Int)(i at':Nat)(vs:List Value)(L:List (List eu)):Prop where
 sq:hp w q=some (.cells #[.slice A xs.length c,bN at'] 114)
 ll:LL w B vs L
 gen:∀ops∈L,∀o∈ops,GenO o
 n:L.length=n
 qB:q<B
 qW:W.heap.size<=q
 at1:at'<=13*i
 tt:ub L<=i
 ch:ad [] W w
def OpsP(W:World)(n:Nat)(v:Value)(w':World):Prop:=∃B vs L,v= .slice (some ⟨B,0,none⟩) n n/\LL w' B vs L/\(∀ ops∈L,∀o∈ops,GenO o)/\L.length=n/\ub L<=40/\W.heap.size<=B/\ad [] W w'
theorem c_genOps{W:World}{A:Option Addr}{c:Nat}{xs:List Int}(R:sZ .i64 W A xs){n:Nat}(n0:0<n)(n8:n<=64){mo:Nat}(a6:mo<=40):
  aa prog 27 [.slice A xs.length c,bN n,bN mo] W (OpsP W n):=by
 apply F27_ok;obtain⟨z,S,hz,hs,T⟩:=inf_116;simp only[F27,zS,bd_114_0,ak,jm (kl:= .i64) (kc:= .i64) (n:=n) underlying70 S hz (by rw[hs];omega) (by rw[T];omega) dB,ah];have B:∀m:Nat,madeCells (Go.Value.slice none 0 0).cells (m*z.size)=(List.replicate m nilS).toArray:=λm=>by
  apply Array.toList_inj.1;have:=toList_madeCells_one (Go.Value.slice none 0 0) (m*z.size);rw[hs,dr]at this⊢;exact this
 simp only[B];have C:∀(d i at':Nat) (w:World) (vs:List Value) (L:List (List eu)),GI W w W.heap.size (W.heap.size+1) n A c xs i at' vs L->i+d=mo->
   P27_0 (.slice A xs.length c) (bN n) (bN mo) (bS W.heap.size) (.slice (some ⟨W.heap.size+1,0,none⟩) n n) (bN i) w (OpsP W n):=by
  intro d;induction d with
  |zero=>
   intro i at' w vs L h S;apply L27_0_ok;have:¬(i:Int)<mo:=dB;simp only[L27_0,zS,this];exact⟨_,vs,L,rfl,h.ll,h.gen,h.n,by have:=h.tt;omega,dB,h.ch⟩
  |succ d ih=>
   intro i at' w vs L h S;apply L27_0_ok;have D:(i:Int)<mo:=dB;by_cases q:(at':Int)<xs.length
   ·simp only[L27_0,zS,D,rq,ag,h.sq,t2_1,aQ,q];have F:∀p,A=some p->p.block≠W.heap.size:=λp hp=>by
     obtain⟨p',e1,e2⟩:=R 0 dB;rw[e1]at hp;cases hp;have:=qk e2;rw[blk_add]at this;omega
    have a7:=h.at1;refine(c_SeqN h.sq (R.ao h.ch.below) F dB (m:=n) dB dB).mono ?_;rintro _ w1 ⟨⟨r,rfl,hr⟩,e,c1⟩;have a8:r<n:=dB;have O:LL w1.drew (W.heap.size+1) vs L:=(h.ll.ao c1 (λk a=>by simp at a;omega)).ao (ad.refl [] _).drew (λk a=>by simp at a);have G:ad [] W w1.drew:=by
     refine ad.drew (chgT h.ch c1 λk a=> .inr ?_);simp at a;subst a;exact cy _
    have e:hp w1.drew W.heap.size=some (.cells #[.slice A xs.length c,bN ((at'+1:Nat):Int)] 114):=e;generalize w1.drew=w2 at*;have a9:=h.n;have b1:=O.len;obtain⟨x,q⟩:∃x,vs[r]? =some x:=⟨_,bX dB⟩
    obtain⟨ops,s⟩:∃ops,L[r]? =some ops:=⟨_,bX dB⟩
    have t:ops∈L:=cD s;have b2:=h.tt;have b3:=tot_ge t;have E:Env w2 W.heap.size A xs (.slice (some ⟨W.heap.size+1,0,none⟩) n n) L:=⟨R.ao G.below,F,O.il dB h.n.symm,by have:=aD e;exact this,dB,λl hl=>by have:=tot_ge hl;omega,dB⟩
    have ia:ai prog (Instr.indexAt 70 (.slice (some ⟨W.heap.size+1,0,none⟩) n n) (bN (r:Int)))=some (.pointer (some ⟨W.heap.size+1,0+r*1,none⟩)):=by
     have:=ia_70 (b:=W.heap.size+1) (p:=0) (n:=n) (c:=n) (j:= .i64) (i:=(r:Int)) dB dB;rw[cj]at this;exact this
    have H:∀w',LL w' (W.heap.size+1) vs L->an (hp w' (W.heap.size+1)) (0+r*1)=some x:=λw' h'=>by
     rw[h'.hb,aN,dr,cM];simpa using q
    have fin:∀v f,GenP w2 W.heap.size A c xs (at'+1) 12 v f->LL f (W.heap.size+1) vs L/\(cP prog (Instr.buildSlice 116 1 #[(0,v)]) f λU w=>
      cP prog (Builtin.append_ #[116,116] 116 #[x,U]) w λV w=>
      ck prog (Instr.storeAt 116 (.pointer (some ⟨W.heap.size+1,0+r*1,none⟩)) V) w λw=>
      P27_1 (.slice A xs.length c) (bN n) (bN mo) (bS W.heap.size) (.slice (some ⟨W.heap.size+1,0,none⟩) n n) (bN i) w (OpsP W n)):=by
     rintro v f ⟨o,y,rfl,hO,X,b4,b5,c3⟩;have g:=O.ao c3 (λk a=>by simp at a;omega);have Y:ad [] W f:=chgT G c3 λk a=> .inr (by simp at a;subst a;exact cy _);refine⟨g,?_⟩;have b6:=aD g.hb;refine ps_116 (λu hu=>List.all_eq_true.1 (show(cI o).all (·.oneCell')=true from rfl) u hu) (g.own r x ops q s) dB dB λx' I J P Z=>?_;have K:hp I (W.heap.size+1)=some (.cells vs.toArray 116):=(chg_own P).at g.hb (λB=>by have:=((g.own r x ops q s).lt _ (by simpa using B)).1;omega);have a1:hp I W.heap.size=some (.cells #[.slice A xs.length c,bN y] 114):=(chg_own P).at X (λB=>by have:=((g.own r x ops q s).lt _ (by simpa using B)).1;omega);have a2:pY (hp I (W.heap.size+1)) (0+r*1+1)=true:=by rw[K];simp;omega
     obtain⟨A',Q,rfl,_,_,_⟩:=aT J;rw[st_116 rfl rfl a2,K,aB,au];have e5:vs.toArray.setIfInBounds (0+r*1) (.slice A' (ops.length+1) Q)=(vs.set r (.slice A' (ops.length+1) Q)).toArray:=by rw[dr,cM];simp
     rw[e5];have l5:=g.push q s o J P Z;have a3:ad [] W (put I (W.heap.size+1) (vs.set r (.slice A' (ops.length+1) Q)).toArray 116):=by
      refine ad.put (Y.grown P λk a=> .inr ?_) (.inr dB) _ _;have:=((g.own r x ops q s).lt k a).1;omega
     have a4:hp (put I (W.heap.size+1) (vs.set r (.slice A' (ops.length+1) Q)).toArray 116) W.heap.size=some (.cells #[.slice A xs.length c,bN y] 114):=by rw[bj dB];exact a1
     apply L27_1_ok;simp only[L27_1,zS,aj,ap (n:=(i:Int)+1) dB dB];have:=ih (i+1) y _ _ _ ⟨a4,l5,λos a5 o' M=>?_,by simpa using h.n,dB,dB,dB,by rw[tot_set s];omega,a3⟩ dB
     ·rw[df i 1]at this;exact this
     ·rcases List.mem_or_eq_of_mem_set a5 with h1|h1
      ·exact h.gen os h1 o' M
      ·subst h1;rcases List.mem_append.1 M with h2|h2
       ·exact h.gen ops t o' h2
       ·simp at h2;subst h2;exact hO
    simp only[zS,ia,nE,H w2 O];refine⟨?_,?_⟩
    ·refine(c_genOp E e dB).mono λv f hv=>?_;exact(fin v f hv).2
    ·refine(c_genOp E e dB).mono λv f hv=>?_;obtain⟨g,k3⟩:=fin v f hv;simp only[zS,H f g];exact k3
   ·simp only[L27_0,zS,D,rq,ag,h.sq,t2_1,aQ,q];exact⟨_,vs,L,rfl,h.ll,h.gen,h.n,by have:=h.tt;omega,dB,h.ch⟩
 refine C mo 0 0 _ _ (List.replicate n []) ⟨?_,LL.nils ?_,λops h o s=>?_,by simp,dB,cy _,dB,by rw[tot_nils];omega,((ad.refl _ _).alloc _).alloc _⟩ dB
 ·rw[af,ah,bV dB,af,bU rfl];rfl
 ·rw[af,ah,bU rfl]
 ·have:=List.eq_of_mem_replicate h;subst this;cases s
section
variable{c:cx}{m m':bd}{s:iF}{p:PuV}{l:List Int}
def pX(c:cx)(a:Nat):Prop:=∀i,i<cS c->a≠iI c i
structure im(c:cx)(m:bd):Prop where
 ok:ee c m
 rt:∀i,i<cS c->(aP (cf m (iI c i))).mark<=cC c+1
theorem rdM_set(m:bd)(a b:Nat)(v:Int):cf (m.set a v) b=if b=a/\a<m.length then v else cf m b:=by
 rw[cf,cf,cu,cu,cR];by_cases h:a=b
 ·subst h;by_cases c:a<m.length
  ·rw[bU rfl,bU c,bU ⟨rfl,c⟩];rfl
  ·rw[bU rfl,bV c,bV (λh=>c h.2),List.getElem?_eq_none dB]
 ·rw[bV h,bV (λh'=>h h'.1.symm)]
theorem im.set(M:im c m){a:Nat}(d:pX c a){v:Int}(hv:sR v):im c (m.set a v):=
 ⟨⟨by rw[cE];exact M.ok.len,mU_set M.ok.u a hv⟩,λi b=>by
  rw[rdM_set,bV (λh=>d i b h.1.symm)];exact M.rt i b⟩
theorem putRt_u(r:RtV):sR (lB r):=by
 unfold lB;split
 ·rename_i h;obtain⟨⟨a,b⟩,⟨c,d⟩,⟨e,f⟩,g,i⟩:=h;constructor<;>omega
 ·constructor<;>omega
theorem get_put_mark(r:RtV):(aP (lB r)).mark=r.mark\/(aP (lB r)).mark=0:=by
 unfold aP lB;simp only;split
 ·rename_i h;obtain⟨⟨a,b⟩,⟨c,d⟩,⟨e,f⟩,g,i⟩:=h;left;omega
 ·right;rfl
theorem im.setRt(M:im c m)(j:Nat){r:RtV}(b:r.mark<=cC c+1):im c (m.set (iI c j) (lB r)):=
 ⟨⟨by rw[cE];exact M.ok.len,mU_set M.ok.u _ (putRt_u r)⟩,λi a=>by
  rw[rdM_set];split
  ·rcases get_put_mark r with h|h<;>rw[h]<;>omega
  ·exact M.rt i a⟩
theorem rt_0:pX c 0:=λi _ h=>by unfold iI at h;omega
theorem rt_1:pX c 1:=λi _ h=>by unfold iI at h;omega
theorem rt_2:pX c 2:=λi _ h=>by unfold iI at h;omega
theorem rt_pin{k:Nat}(a:k<cW c):pX c (fH c k):=λi _ h=>by unfold iI fH at h;omega
theorem rt_lk(k:Nat):pX c (aLk c k):=λi a h=>by unfold iI aLk at h;omega
theorem rt_sl(k:Nat):pX c (aSl c k):=λi a h=>by unfold iI aSl at h;omega
theorem rt_wd(k i:Nat):pX c (aWd c k i):=λj a h=>by unfold iI aWd at h;omega
structure StkI(c:cx)(s:iF):Prop where
 hd:pX c s.head
 lk:∀i,pX c (s.dV+i)
 n:s.n<=4096
theorem poolJ(N:gG c):StkI c (bB c):=⟨rt_0,λi=>by have:=rt_lk (c:=c) i;unfold aLk at this;show pX c (aLk c 0+i);unfold aLk;exact this,N.b2.2⟩
theorem spareJ(N:gG c):StkI c (dF c):=⟨rt_1,λi=>by have:=rt_sl (c:=c) i;unfold aSl at this;show pX c (aSl c 0+i);unfold aSl;exact this,N.b4.2⟩
theorem top_rng(s:iF){w:Int}(a:sR w): -1<=pQ s w/\pQ s w<s.n:=by
 have:=hd_bd a;unfold pQ;split<;>constructor<;>omega
theorem bel_rng(s:iF){w:Int}(a:sR w): -1<=gC s w/\gC s w<s.n:=by
 unfold gC;obtain⟨b,c⟩:=a;split<;>constructor<;>omega
theorem putHd_u(i t:Int):sR (putHd i t):=by
 unfold putHd;split
 ·constructor<;>omega
 ·constructor<;>omega
theorem nextHd_u(w i:Int):sR (r5 w i):=putHd_u _ _
theorem inS_getD{s:iF}{l:List Int}(h:s7 s l){i:Nat}(a:i<l.length):0<=l.getD i 0/\l.getD i 0<s.n:=by
 obtain⟨y,_,b,c,d⟩:=h.at a;rw[b];exact⟨c,d⟩
theorem qF{s:iF}{a b:List Int}(c:s7 s a)(d:s7 s b):s7 s (a++b):=λx e=>(List.mem_append.1 e).elim (c x) (d x)
theorem lH{s:iF}:s7 s []:=λx a=>absurd a (by simp)
theorem inS_take{s:iF}{a:List Int}(h:s7 s a)(k:Nat):s7 s (a.take k):=λx b=>h x (List.mem_of_mem_take b)
theorem inS_drop{s:iF}{a:List Int}(h:s7 s a)(k:Nat):s7 s (a.drop k):=λx b=>h x (List.mem_of_mem_drop b)
theorem pu_inv(I:StkI c s)(M:im c m)(O:s9 s p):im c (eQ s m p).1/\s9 s (eQ s m p).2/\(eQ s m p).2.l=p.l:=by
 have j:=I.n;unfold eQ;by_cases b:p.done=true
 ·rw[bU b];exact⟨M,O,rfl⟩
 have d:p.done=false:=by simpa using b
 obtain⟨a,k⟩:=O.nd d;rw[bV b];by_cases e:p.at'+1<p.l.length
 ·rw[bU e];have:=inS_getD O.l e;exact⟨M.set (I.lk _) (by constructor<;>omega),⟨O.l,O.n,O.u,λ_=>⟨a,by show p.at'+1<=p.l.length+1;omega⟩⟩,rfl⟩
 rw[bV e];by_cases f:p.at'+1=p.l.length
 ·rw[bU f];exact⟨M,⟨O.l,O.n,iw M.ok.u _,λ_=>⟨a,by show p.at'+1<=p.l.length+1;omega⟩⟩,rfl⟩
 rw[bV f];by_cases g:p.at'=p.l.length
 ·rw[bU g];have:=top_rng s O.u;exact⟨M.set (I.lk _) (by constructor<;>omega),⟨O.l,O.n,O.u,λ_=>⟨a,by show p.at'+1<=p.l.length+1;omega⟩⟩,rfl⟩
 rw[bV g];by_cases i:cf m s.head=p.old
 ·rw[bU i];exact⟨M.set I.hd (nextHd_u _ _),⟨O.l,O.n,O.u,λh=>by cases h⟩,rfl⟩
 ·rw[bV i];exact⟨M,⟨O.l,O.n,O.u,λ_=>⟨a,by show p.l.length-1<=p.l.length+1;omega⟩⟩,rfl⟩
theorem pu_new{l:List Int}(h:s7 s l)(a:l.length<=100000):s9 s (puNew l):=⟨h,a,⟨dm _,by show(0:Int)<=_;omega⟩,λb=>by
 have:¬l.length=0:=by simpa [puNew]using b
 show 1<=l.length/\0<=_;omega⟩
structure PoI(s:iF)(p:PoV):Prop where
 ok:PoOk s p
 n:p.l.length<=8
theorem po_new(a:Int):PoI s (poNew a):=⟨⟨lH,by show 0<=10000;omega,⟨dm _,by show(0:Int)<=_;omega⟩,by show min (max a 1) 8<=8;omega,λ_ h=>by cases h⟩,by show 0<=8;omega⟩
theorem po_inv{p:PoV}(I:StkI c s)(M:im c m)(O:PoI s p):im c (dK s m p).1/\PoI s (dK s m p).2:=by
 have r:=I.n;have a:=O.ok;have b:=a.mo;unfold dK;by_cases e:p.done=true
 ·rw[bU e];exact⟨M,O⟩
 have f:p.done=false:=by simpa using e
 rw[bV e];have g:=iw M.ok.u s.head;have t:=top_rng s g;by_cases a0:p.at'=0
 ·rw[bU a0];by_cases i:pQ s (cf m s.head)<0
  ·rw[bU i];exact⟨M,⟨lH,by show 0<=10000;omega,g,b,λh=>by cases h⟩,by show 0<=8;omega⟩
  ·rw[bV i];exact⟨M,⟨λx j=>by rw[db.1 j];omega,by show 1<=10000;omega,g,b,λ_ _=>by show 1<=1;omega⟩,by show 1<=8;omega⟩
 rw[bV a0];by_cases k:p.at'=1
 ·rw[bU k];have hb:=bel_rng s (iw M.ok.u (s.dV+(p.l.getD (p.l.length-1) 0).toNat));generalize gC s (cf m (s.dV+(p.l.getD (p.l.length-1) 0).toNat))=d at*;have i:=a.nd f k;by_cases o:0<=d/\(p.l.length:Int)<p.ni
  ·rw[bU o];exact⟨M,⟨qF a.l (λx j=>by rw[db.1 j];omega),by show(p.l++ [d]).length<=10000;rw[cq];show p.l.length+1<=_;omega,a.u,b,λ_ _=>by show 1<=(p.l++ [d]).length;rw[cq];omega⟩,by show(p.l++ [d]).length<=8;rw[cq];show p.l.length+1<=8;omega⟩
  ·rw[bV o];exact⟨M,⟨a.l,a.n,a.u,b,λ_ h=>by cases h⟩,O.n⟩
 rw[bV k];by_cases q:cf m s.head=p.old
 ·rw[bU q];exact⟨M.set I.hd (nextHd_u _ _),⟨a.l,a.n,a.u,b,λh=>by cases h⟩,O.n⟩
 ·rw[bV q];exact⟨M,⟨a.l,a.n,a.u,b,λ_ h=>by cases h⟩,O.n⟩
theorem po_got{p:PoV}(O:PoI s p):s7 s (dS p)/\(dS p).length<=8:=by
 unfold dS;split
 ·exact⟨O.ok.l,O.n⟩
 ·exact⟨lH,by show 0<=8;omega⟩
end
section
variable{c:cx}{m m':bd}{s:iF}{p:PuV}{l:List Int}{B:Nat}{su:lC}
structure pa(c:cx)(B:Nat)(su:lC):Prop where
 l3:su.lb.l.length=3
 st:s7 (bB c) su.st
 lb:∀k,s7 (bB c) (su.lb.l.getD k [])
 n:su.st.length+jh su.lb<=B
theorem pa.mono{a:Nat}(U:pa c B su)(h:B<=a):pa c a su:=⟨U.l3,U.st,U.lb,cU U.n h⟩
theorem pa.ok(U:pa c B su)(h:B<=90000):qS su/\su.st.length+100<=100000:=by
 have:=U.n;refine⟨⟨dB,?_⟩,dB⟩;show jh su.lb<=200000;omega
theorem su_new:pa c 0 suNew:=⟨rfl,lH,λk=>by
 match k with
 |0=>exact lH
 |1=>exact lH
 |2=>exact lH
 |k+3=>exact lH,cy _⟩
theorem su_give(U:pa c B su)(a:s7 (bB c) l):pa c (B+l.length) (qA su l):=⟨U.l3,qF U.st a,U.lb,by
 have:=U.n;show(su.st++l).length+jh su.lb<=_;rw[cq];omega⟩
theorem lbl_set{b:r8}(c:b.l.length=3){k:Nat}(d:k<=2)(x:List Int)(t:List Int)(y:Int):jh ⟨t,b.l.set k x,y⟩+(b.l.getD k []).length=jh b+x.length:=by
 have a:k<b.l.length:=dB;unfold jh;simp only[iM _ a];have:k=0\/k=1\/k=2:=dB;rcases this with rfl|rfl|rfl
 ·simp only[if_true,show(1:Nat)≠0 by omega,show(2:Nat)≠0 by omega,if_false];omega
 ·simp only[if_true,show(0:Nat)≠1 by omega,show(2:Nat)≠1 by omega,if_false];omega
 ·simp only[if_true,show(0:Nat)≠2 by omega,show(1:Nat)≠2 by omega,if_false];omega
theorem inS_set{b:r8}(e:b.l.length=3)(a:∀k,s7 (bB c) (b.l.getD k [])){k:Nat}(f:k<=2){x:List Int}(d:s7 (bB c) x):∀j,s7 (bB c) ((b.l.set k x).getD j []):=λj=>by
 rw[iM _ dB];split
 ·exact d
 ·exact a j
theorem mod3(t:Int):(t%3).toNat<=2:=dB
theorem su_retire(U:pa c B su)(b:s7 (bB c) l)(tag:Int):pa c (B+l.length) (nV su tag l):=by
 have d:=U.n;have a:=mod3 tag;unfold nV eH;split
 ·exact⟨U.l3,by show s7 _ (su.st++ []);rw[List.append_nil];exact U.st,U.lb,by show(su.st++ []).length+jh su.lb<=_;rw[List.append_nil];omega⟩
 ·split
  ·have e:=lbl_set U.l3 a l (su.lb.tag.set (tag%3).toNat tag) tag;refine⟨by show(su.lb.l.set _ _).length=3;rw[cE];exact U.l3,qF U.st (U.lb _),inS_set U.l3 U.lb a b,?_⟩;show(su.st++su.lb.l.getD (tag%3).toNat []).length+jh ⟨su.lb.tag.set (tag%3).toNat tag,su.lb.l.set (tag%3).toNat l,tag⟩<=B+l.length;rw[cq];omega
  ·have e:=lbl_set U.l3 a (su.lb.l.getD (tag%3).toNat []++l) (su.lb.tag.set (tag%3).toNat tag) tag;rw[cq]at e;refine⟨by show(su.lb.l.set _ _).length=3;rw[cE];exact U.l3,by show s7 _ (su.st++ []);rw[List.append_nil];exact U.st,inS_set U.l3 U.lb a (qF (U.lb _) b),?_⟩;show(su.st++ []).length+jh ⟨su.lb.tag.set (tag%3).toNat tag,su.lb.l.set (tag%3).toNat (su.lb.l.getD (tag%3).toNat []++l),tag⟩<=B+l.length;rw[List.append_nil];omega
theorem least_le(b:r8)(now:Int):(ke b now).toNat<=2:=by
 unfold ke bW;repeat' split
 all_goals simp
theorem ready_inv(now:Int):∀(f:Nat) (b:r8) (a:List Int),b.l.length=3->(∀ k,s7 (bB c) (b.l.getD k []))->s7 (bB c) a->(eY f b now a).2.l.length=3/\(∀ k,s7 (bB c) ((eY f b now a).2.l.getD k []))/\s7 (bB c) (eY f b now a).1/\(eY f b now a).1.length+jh (eY f b now a).2=a.length+jh b
 |0,b,a,d,g,i=>⟨d,g,i,rfl⟩
 |f+1,b,a,d,g,i=>by
  unfold eY;split
  ·have m:=least_le b now;have e:=lbl_set d m [] b.tag b.last;have j:=ready_inv now f {b with l:=b.l.set (ke b now).toNat []} (a++b.l.getD (ke b now).toNat []) (by show(b.l.set _ _).length=3;rw[cE];exact d) (inS_set d g m lH) (qF i (g _));refine⟨j.1,j.2.1,j.2.2.1,j.2.2.2.trans ?_⟩;rw[cq];simp only[cY]at e;show a.length+(b.l.getD (ke b now).toNat []).length+jh ⟨b.tag,b.l.set (ke b now).toNat [],b.last⟩=_;omega
  ·exact⟨d,g,i,rfl⟩
theorem su_ready(U:pa c B su)(now:Int):pa c B (fI su now):=by
 obtain⟨a,b,d,e⟩:=ready_inv now 4 su.lb [] U.l3 U.lb lH;have f:=U.n;refine⟨a,qF U.st d,b,?_⟩;show(su.st++(eY 4 su.lb now []).1).length+jh (eY 4 su.lb now []).2<=B;rw[cq];simp only[cY,cM]at e;omega
theorem su_over(U:pa c B su)(a:Int):pa c B (fg a su).2/\s7 (bB c) (fg a su).1/\(fg a su).1.length<=B:=by
 have b:=U.n;refine⟨⟨U.l3,inS_drop U.st _,U.lb,?_⟩,inS_take U.st _,?_⟩
 ·show(su.st.drop _).length+jh su.lb<=B;rw[List.length_drop];omega
 ·show(su.st.take _).length<=B;rw[dt];omega
theorem su_all(U:pa c B su):pa c B (m0 su).2/\s7 (bB c) (m0 su).1/\(m0 su).1.length<=B:=by
 have a:=U.n;exact⟨⟨U.l3,lH,U.lb,by show 0+jh su.lb<=B;omega⟩,U.st,by show su.st.length<=B;omega⟩
structure TkI(c:cx)(t:TkV):Prop where
 a:t.at'<=1
 p:t.at'≠0->t.done=false->PoI (bB c) t.p
 k: -1<=t.chunk/\t.chunk<cC c
theorem TkI.ok{t:TkV}(T:TkI c t):TkOk c t:=⟨T.a,λb d=>(T.p b d).ok⟩
theorem kept_inv{t:TkV}(U:pa c B su)(T:TkI c t):pa c B (eE su t).1/\TkI c (eE su t).2/\(eE su t).2.at'=t.at':=by
 have b:=U.n;unfold eE;split
 ·exact⟨U,T,rfl⟩
 ·rename_i h;have d:=inS_getD U.st (i:=su.st.length-1) dB;refine⟨⟨U.l3,inS_take U.st _,U.lb,?_⟩,⟨T.a,λ_ h=>(by cases h),?_⟩,rfl⟩
  ·show(su.st.take _).length+jh su.lb<=B;rw[dt];omega
  ·show -1<=su.st.getD (su.st.length-1) 0/\su.st.getD (su.st.length-1) 0<cC c;have:((bB c).n:Int)=cC c:=rfl;omega
theorem tpop_inv{t:TkV}(T:TkI c t):TkI c (tkPop c t):=⟨cy _,λ_ _=>po_new _,T.k⟩
theorem tk0I:TkI c tk0:=⟨cQ _,λh=>absurd rfl h,by show -1<=(-1:Int)/\(-1:Int)<_;omega⟩
theorem tknew_inv(U:pa c B su):pa c B (jU c su).1/\TkI c (jU c su).2:=by
 have h:=kept_inv (t:=⟨0,-1,-1,poNew 0,false⟩) U tk0I;unfold jU;simp only;split
 ·exact⟨h.1,tpop_inv h.2.1⟩
 ·exact⟨h.1,h.2.1⟩
theorem tk_inv{t:TkV}(N:gG c)(M:im c m)(U:pa c B su)(T:TkI c t):im c (eV c m su t).1/\pa c (B+8) (eV c m su t).2.1/\TkI c (eV c m su t).2.2:=by
 have b:=U.mono (Nat.le_add_right B 8);unfold eV;by_cases d:t.done=true
 ·rw[bU d];exact⟨M,b,T⟩
 rw[bV d];have e:t.done=false:=by simpa using d
 by_cases a0:t.at'=0
 ·rw[bU a0];have h:=kept_inv (t:={t with seen:=fE (cf m 2)}) (su_ready U (fE (cf m 2))) ⟨T.a,T.p,T.k⟩;simp only;split
  ·exact⟨M,h.1.mono (Nat.le_add_right B 8),h.2.1⟩
  ·exact⟨M,h.1.mono (Nat.le_add_right B 8),tpop_inv h.2.1⟩
 ·rw[bV a0];obtain⟨f,g⟩:=po_inv (poolJ N) M (T.p a0 e);obtain⟨j,o⟩:=po_got g;simp only;generalize dK (bB c) m t.p=r at*;split
  ·exact⟨f,b,⟨T.a,λ_ _=>g,T.k⟩⟩
  ·split
   ·exact⟨f,b,⟨T.a,λ_ h=>(by cases h),T.k⟩⟩
   ·rename_i q;have s:=inS_getD j (i:=0) dB;have l:=su_give U (inS_drop j 1);refine⟨f,l.mono ?_,⟨T.a,λ_ h=>(by cases h),?_⟩⟩
    ·rw[List.length_drop];omega
    ·show -1<=(dS r.2).getD 0 0/\(dS r.2).getD 0 0<cC c;have:((bB c).n:Int)=cC c:=rfl;omega
theorem gi_inv{g:GiV}(N:gG c)(M:im c m)(G:s9 (bB c) g.p):im c (cO c m g).1/\s9 (bB c) (cO c m g).2.p:=by
 unfold cO;split
 ·exact⟨M,G⟩
 ·obtain⟨a,b,_⟩:=pu_inv (poolJ N) M G;exact⟨a,b⟩
theorem gi_new(a:s7 (bB c) l)(b:l.length<=100000):s9 (bB c) (ir l).p:=pu_new a b
end
section
variable{c:cx}{m m':bd}{s:iF}{p:PuV}{l:List Int}{B n:Nat}{su:lC}
theorem wrapU(x:Int):sR (IntKind.u64.wrap x):=by
 have h:IntKind.u64.wrap x=x%18446744073709551616:=by simp[IntKind.wrap,IntKind.signed,IntKind.bits]
 rw[h];constructor<;>omega
structure CrI(c:cx)(n:Nat)(x:CrV):Prop where
 at':x.at'<=2
 steps:0<=x.steps/\x.steps<=n
 p:x.at'=0->PoI (dF c) x.p
 slot:x.at'≠0->0<=x.slot/\x.slot<cS c
 root:0<=x.root.gen/\x.root.gen<=4294967295
 pt:x.done=false->x.point≠0->x.at'≠0
theorem CrI.ok{x:CrV}(X:CrI c n x)(a:n<=1000000000):CrOk c x:=⟨X.at',by have:=X.steps;omega,λh=>(X.p h).ok,X.slot,X.root⟩
theorem crI_new(cls:Int):CrI c 0 (crNew cls):=⟨cQ _,⟨dm _,dm _⟩,λ_=>po_new 1,λh=>absurd rfl h,⟨dm _,by show(0:Int)<=_;omega⟩,λ_ h=>absurd rfl h⟩
theorem CrI.mono{a:Nat}{x:CrV}(X:CrI c n x)(h:n<=a):CrI c a x:=⟨X.at',by have:=X.steps;omega,X.p,X.slot,X.root,X.pt⟩
theorem cr_inv{x:CrV}(N:gG c)(M:im c m)(X:CrI c n x):im c (eF c m x).1/\CrI c (n+1) (eF c m x).2:=by
 have k:=X.steps;unfold eF;by_cases a:x.done=true
 ·rw[bU a];exact⟨M,X.mono (Nat.le_succ n)⟩
 have f:x.done=false:=by simpa using a
 rw[bV a];by_cases a0:x.at'=0
 ·rw[bU a0];obtain⟨b,d⟩:=po_inv (spareJ N) M (X.p a0);obtain⟨g,l⟩:=po_got d;simp only;generalize dK (dF c) m x.p=r at*;split
  ·exact⟨b,X.at',by show 0<=x.steps+1/\x.steps+1<=((n+1:Nat):Int);omega,λ_=>d,X.slot,X.root,X.pt⟩
  ·split
   ·exact⟨b,X.at',by show 0<=x.steps+1/\x.steps+1<=((n+1:Nat):Int);omega,λ_=>d,X.slot,X.root,λh=>(by cases h)⟩
   ·rename_i o;have j:=inS_getD g (i:=0) dB;exact⟨b,by show 1<=2;omega,by show 0<=x.steps+1/\x.steps+1<=((n+1:Nat):Int);omega,λh=>(by cases h),λ_=>j,X.root,λ_ _ h=>(by cases h)⟩
 rw[bV a0];by_cases e:x.at'=1
 ·rw[bU e];exact⟨M,by show 2<=2;omega,by show 0<=x.steps+1/\x.steps+1<=((n+1:Nat):Int);omega,λh=>(by cases h),λ_=>X.slot a0,(rt_bd (iw M.ok.u _)).1,λ_ _ h=>(by cases h)⟩
 ·rw[bV e];exact⟨M.setRt _ (by show(1:Int)<=_;have:=N.b2;omega),X.at',by show 0<=x.steps+1/\x.steps+1<=((n+1:Nat):Int);omega,λh=>absurd h a0,λ_=>X.slot a0,X.root,λh=>(by cases h)⟩
structure EdI(c:cx)(n:Nat)(e:EdV):Prop where
 at':e.at'<=1
 slot:0<=e.slot/\e.slot<cS c
 steps:0<=e.steps/\e.steps<=n
 old:e.at'=1->sR e.old/\(aP e.old).mark<=cC c+1
 chunk: -1<=e.chunk/\e.chunk<cC c
theorem EdI.ok{e:EdV}(X:EdI c n e)(a:n<=1000000000):EdOk c e:=⟨X.at',X.slot,by have:=X.steps;omega,λh=>(X.old h).1⟩
theorem chunk_rng{r:RtV}(h:r.mark<=cC c+1): -1<=ed r/\ed r<cC c:=by
 unfold ed;split<;>constructor<;>omega
theorem mem_rt(M:im c m){a:Int}(h:0<=a/\a<cS c):(aP (cf m (iI c a.toNat))).mark<=cC c+1:=M.rt _ dB
theorem ed_inv{e:EdV}(N:gG c)(M:im c m)(X:EdI c n e):im c (fu c m e).1/\EdI c (n+1) (fu c m e).2/\(fu c m e).2.slot=e.slot:=by
 have j:=X.steps;have a:0<=e.steps+1/\e.steps+1<=((n+1:Nat):Int):=dB;unfold fu;by_cases d:e.done=true
 ·have b:0<=e.steps/\e.steps<=((n+1:Nat):Int):=dB;rw[bU d];exact⟨M,⟨X.at',X.slot,b,X.old,X.chunk⟩,rfl⟩
 rw[bV d];by_cases a0:e.at'=0
 ·rw[bU a0];have f:=iw M.ok.u (iI c e.slot.toNat);split
  ·exact⟨M,⟨cy _,X.slot,a,λ_=>⟨f,mem_rt M X.slot⟩,X.chunk⟩,rfl⟩
  ·exact⟨M,⟨cy _,X.slot,a,λ_=>⟨f,mem_rt M X.slot⟩,X.chunk⟩,rfl⟩
 rw[bV a0];have g:e.at'=1:=by have:=X.at';omega
 obtain⟨k,i⟩:=X.old g;split
 ·exact⟨M.setRt _ (by show(0:Int)<=_;omega),⟨cQ _,X.slot,a,λh=>(by cases h),chunk_rng i⟩,rfl⟩
 ·exact⟨M,⟨cQ _,X.slot,a,λh=>(by cases h),X.chunk⟩,rfl⟩
structure WaI(c:cx)(x:WaV):Prop where
 n:x.done=false->1<=x.l.length
 m:x.l.length<=cC c
 l:s7 (bB c) x.l
theorem WaI.ok{x:WaV}(N:gG c)(X:WaI c x):WaOk c x:=⟨X.n,by have:=X.m;have:=N.b2;omega,X.l⟩
theorem wa_inv{x:WaV}(M:im c m)(X:WaI c x):WaI c (ic c m x):=by
 unfold ic;by_cases b:x.done=true
 ·rw[bU b];exact X
 rw[bV b];have hb:=bel_rng (bB c) (iw M.ok.u (aLk c (x.l.getD (x.l.length-1) 0).toNat));generalize gC (bB c) (cf m (aLk c (x.l.getD (x.l.length-1) 0).toNat))=d at*;have f:=X.m;split
 ·exact⟨λh=>(by cases h),X.m,X.l⟩
 ·rename_i h;have g:0<=d:=by
   by_cases a:d<0
   ·exact absurd (.inl a) h
   ·omega
  have i:x.l.length≠cC c:=λa=>h (.inr a);refine⟨λ_=>?_,?_,qF X.l λy e=>by rw[db.1 e];omega⟩
  ·show 1<=(x.l++ [d]).length;rw[cq];show 1<=_+1;omega
  ·show(x.l++ [d]).length<=cC c;rw[cq];show x.l.length+1<=_;omega
structure FrI(c:cx)(n:Nat)(f:FrV):Prop where
 at':f.at'<=4
 steps:0<=f.steps/\f.steps<=n
 slot:0<=f.e.slot/\f.e.slot<cS c
 e:f.at'=0->EdI c n f.e
 ch:f.at'=1->0<=f.e.chunk/\f.e.chunk<cC c
 k:f.at'=2->WaI c f.k
 p:f.at'=3->s9 (dF c) f.b
 g:f.at'=4->s9 (bB c) f.g.p
theorem FrI.ok{f:FrV}(N:gG c)(X:FrI c n f)(a:n<=1000000000):FrOk c f:=⟨X.at',by have:=X.steps;omega,λh=>(X.e h).ok a,λh=>(X.k h).ok N,X.p,X.g⟩
theorem frI_new{slot gen:Int}(h:0<=slot/\slot<cS c):FrI c 0 (tm slot gen):=
 ⟨cQ _,⟨dm _,dm _⟩,h,λ_=>⟨cQ _,h,⟨dm _,dm _⟩,λh=>by(cases h),by show -1<=(-1:Int)/\(-1:Int)<_;omega⟩,λh=>by(cases h),λh=>by(cases h),λh=>by(cases h),λh=>by(cases h)⟩
theorem frI_back{f:FrV}(b:0<=f.steps/\f.steps<=n)(a:0<=f.e.slot/\f.e.slot<cS c):FrI c n (se f):=
 ⟨by show 3<=4;omega,b,a,λh=>by(cases h),λh=>by(cases h),λh=>by(cases h),λ_=>pu_new (λx d=>by rw[db.1 d];exact a) (by show 1<=100000;omega),λh=>by(cases h)⟩
theorem fr_inv{f0:FrV}(N:gG c)(M:im c m)(U:pa c B su)(C:B<=90000)(X:FrI c n f0):im c (et c m su f0).1/\pa c (B+cC c) (et c m su f0).2.1/\FrI c (n+1) (et c m su f0).2.2:=by
 have D:=X.steps;have a:0<=f0.steps+1/\f0.steps+1<=((n+1:Nat):Int):=dB;have f:=U.mono (Nat.le_add_right B (cC c));have mono:FrI c (n+1) f0:=⟨X.at',dB,X.slot,λh=>by have:=X.e h;exact⟨this.at',this.slot,by have:=this.steps;omega,this.old,this.chunk⟩,X.ch,X.k,X.p,X.g⟩
 unfold et;by_cases u:f0.done=true
 ·rw[bU u];exact⟨M,f,mono⟩
 rw[bV u];simp only;by_cases a0:f0.at'=0
 ·rw[bU a0];obtain⟨i,d,E⟩:=ed_inv N M (X.e a0);generalize fu c m f0.e=r at*;split
  ·exact⟨i,f,⟨X.at',a,d.slot,λ_=>d,λh=>absurd (h.symm.trans a0) dC,λh=>absurd (h.symm.trans a0) dC,λh=>absurd (h.symm.trans a0) dC,λh=>absurd (h.symm.trans a0) dC⟩⟩
  ·refine⟨i,f,?_⟩;split
   ·exact⟨X.at',a,d.slot,λ_=>d,λh=>absurd (h.symm.trans a0) dC,λh=>absurd (h.symm.trans a0) dC,λh=>absurd (h.symm.trans a0) dC,λh=>absurd (h.symm.trans a0) dC⟩
   ·split
    ·rename_i s;exact⟨by show 1<=4;omega,a,d.slot,λh=>by(cases h),λ_=>⟨s,d.chunk.2⟩,λh=>by(cases h),λh=>by(cases h),λh=>by(cases h)⟩
    ·exact frI_back a d.slot
 rw[bV a0];by_cases o:f0.at'=1
 ·rw[bU o];have s:=X.ch o;exact⟨M,f,⟨by show 2<=4;omega,a,X.slot,λh=>by(cases h),λh=>by(cases h),λ_=>⟨λ_=>cy _,N.b2.1,λx v=>by rw[db.1 v];exact s⟩,λh=>by(cases h),λh=>by(cases h)⟩⟩
 rw[bV o];by_cases j:f0.at'=2
 ·rw[bU j];have t:=wa_inv M (X.k j);generalize ic c m f0.k=w at*;split
  ·exact⟨M,(su_retire U t.l f0.tag).mono (by have:=t.m;omega),frI_back a X.slot⟩
  ·exact⟨M,f,⟨X.at',a,X.slot,λh=>absurd h a0,λh=>absurd h o,λ_=>t,λh=>absurd (h.symm.trans j) dC,λh=>absurd (h.symm.trans j) dC⟩⟩
 rw[bV j];by_cases q:f0.at'=3
 ·rw[bU q];obtain⟨i,d,_⟩:=pu_inv (spareJ N) M (X.p q);generalize eQ (dF c) m f0.b=r at*;obtain⟨y,z,F⟩:=su_over U c.2.2.2.2.1;split
  ·exact⟨i,y.mono (Nat.le_add_right B (cC c)),⟨by show 4<=4;omega,a,X.slot,λh=>by(cases h),λh=>by(cases h),λh=>by(cases h),λh=>by(cases h),λ_=>gi_new z dB⟩⟩
  ·exact⟨i,f,⟨X.at',a,X.slot,λh=>absurd h a0,λh=>absurd h o,λh=>absurd h j,λ_=>d,λh=>absurd (h.symm.trans q) dC⟩⟩
 rw[bV q];have A:f0.at'=4:=by have:=X.at';omega
 obtain⟨i,d⟩:=gi_inv N M (X.g A);exact⟨i,f,⟨X.at',a,X.slot,λh=>absurd h a0,λh=>absurd h o,λh=>absurd h j,λh=>absurd h q,λ_=>d⟩⟩
theorem ad_inv{a:AdV}(N:gG c)(M:im c m)(X:AdOk c a):im c (fy c m a).1/\((fy c m a).2.done=false->AdOk c (fy c m a).2):=by
 have e:=iw M.ok.u 2;unfold fy;by_cases b:a.done=true
 ·rw[bU b];exact⟨M,λ_=>X⟩
 rw[bV b];by_cases a0:a.at'=0
 ·rw[bU a0];exact⟨M,λ_=>⟨by show a.at'+1<=cW c+1;omega,e⟩⟩
 rw[bV a0];by_cases d:a.at'<=cW c
 ·rw[bU d];exact⟨M,λ_=>⟨by show a.at'+1<=cW c+1;omega,X.old⟩⟩
 rw[bV d];split
 ·exact⟨M.set rt_2 (wrapU _),λh=>(by cases h)⟩
 ·exact⟨M,λh=>(by cases h)⟩
structure CoI(c:cx)(x:CoV):Prop where
 at':x.at'<=2
 a:x.at'=0->AdOk c x.a
 g:x.at'=2->s9 (bB c) x.g.p
theorem CoI.ok{x:CoV}(X:CoI c x):CoOk c x:=⟨X.at',X.a,X.g⟩
theorem coI_new:CoI c coNew:=⟨cQ _,λ_=>⟨cQ _,⟨dm _,by show(0:Int)<=_;omega⟩⟩,λh=>(by cases h)⟩
theorem co_inv{x:CoV}(N:gG c)(M:im c m)(U:pa c B su)(j:B<=90000)(X:CoI c x):im c (fj c m su x).1/\pa c B (fj c m su x).2.1/\CoI c (fj c m su x).2.2:=by
 unfold fj;by_cases e:x.done=true
 ·rw[bU e];exact⟨M,U,X⟩
 rw[bV e];by_cases a0:x.at'=0
 ·rw[bU a0];obtain⟨b,d⟩:=ad_inv N M (X.a a0);simp only;generalize fy c m x.a=r at*;refine⟨b,U,?_⟩;split
  ·exact⟨by show 1<=2;omega,λh=>by(cases h),λh=>by(cases h)⟩
  ·rename_i h;exact⟨X.at',λ_=>d (by simpa using h),λh=>absurd (h.symm.trans a0) dC⟩
 rw[bV a0];by_cases f:x.at'=1
 ·rw[bU f];obtain⟨b,d,k⟩:=su_all (su_ready U (fE (cf m 2)));exact⟨M,b,⟨by show 2<=2;omega,λh=>by(cases h),λ_=>gi_new d dB⟩⟩
 ·rw[bV f];have i:x.at'=2:=by have:=X.at';omega
  obtain⟨b,d⟩:=gi_inv N M (X.g i);exact⟨b,U,⟨X.at',λh=>absurd h a0,λ_=>d⟩⟩
end
section
variable{c:cx}{m m':bd}{s:iF}{p:PuV}{l:List Int}{B n:Nat}{su:lC}{a:AlV}
structure AlI(c:cx)(n:Nat)(a:AlV):Prop where
 at':a.at'<=6
 slot:0<=a.slot/\a.slot<cS c
 steps:0<=a.steps/\a.steps<=n
 need:0<=a.need/\a.need<=10000
 held: -1<=a.held/\a.held<cC c
 h3:3<=a.at'->a.at'<=5->0<=a.held
 zero:a.at'=3->0<=a.zero/\a.zero<cK c
 old:sR a.old/\(aP a.old).mark<=cC c+1
 t:TkI c a.t
 g:a.at'=6->s9 (bB c) a.g.p
 n:1<=a.n/\a.n<=1024
theorem AlI.ok(A:AlI c n a)(b:n<=1000000000):AlOk c a:=⟨A.at',A.slot,by have:=A.steps;omega,A.need,A.held,A.h3,A.zero,A.old.1,λ_=>A.t.ok,A.g⟩
theorem AlI.mono{b:Nat}(A:AlI c n a)(h:n<=b):AlI c b a:=⟨A.at',A.slot,by have:=A.steps;omega,A.need,A.held,A.h3,A.zero,A.old,A.t,A.g,A.n⟩
theorem get0_mark:(aP 0).mark=0:=rfl
theorem alI_new{slot gen k:Int}(h:0<=slot/\slot<cS c)(a:1<=k/\k<=1024):AlI c 0 (alNew slot gen k):=
 ⟨cQ _,h,⟨dm _,dm _⟩,⟨dm _,by show(0:Int)<=10000;omega⟩,by show -1<=(-1:Int)/\(-1:Int)<_;omega,λh=>absurd h (by show¬3<=0;omega),λh=>(by cases h),⟨⟨dm _,by show(0:Int)<=_;omega⟩,by show(aP 0).mark<=_;rw[get0_mark];omega⟩,tk0I,λh=>(by cases h),a⟩
theorem al_closes(U:pa c B su)(j:B<=90000)(A:AlI c n a)(b:Int):pa c (B+1) (gQ b su a).1/\AlI c n (gQ b su a).2:=by
 have d:pa c (B+1) (if 0<=a.held then qA su [a.held]else su):=by
  have e:=A.held;split
  ·exact su_give U λx f=>by rw[db.1 f];exact⟨dB,e.2⟩
  ·exact U.mono (Nat.le_succ B)
 unfold gQ;simp only;generalize (if 0<=a.held then qA su [a.held]else su)=k at*;obtain⟨g,i,l⟩:=su_over d b;exact⟨g,⟨by show 6<=6;omega,A.slot,A.steps,A.need,by show -1<=(-1:Int)/\(-1:Int)<_;omega,λ_ h=>absurd h (by show¬6<=5;omega),λh=>(by cases h),A.old,A.t,λ_=>gi_new i dB,A.n⟩⟩
theorem al_fine(U:pa c B su)(e:B<=90000)(A:AlI c n a)(b d off:Int):pa c (B+1) (oW b su a d off).1/\AlI c n (oW b su a d off).2:=by
 unfold oW;exact al_closes U e (a:={a with h:=(a.slot,a.gen,d,off,a.n),point:=a.steps}) ⟨A.at',A.slot,A.steps,A.need,A.held,A.h3,A.zero,A.old,A.t,A.g,A.n⟩ b
theorem al_taken(N:gG c)(A:AlI c n a):AlI c n (mr a):=by
 have d:=N.b3;have b:=A.t.k;unfold mr;split
 ·exact⟨cQ _,A.slot,A.steps,A.need,A.held,λh=>absurd h (by show¬3<=0;omega),λh=>(by cases h),A.old,A.t,λh=>(by cases h),A.n⟩
 ·exact⟨by show 3<=6;omega,A.slot,A.steps,A.need,b,λ_ _=>by show 0<=a.t.chunk;omega,λ_=>by show 0<=(0:Int)/\(0:Int)<cK c;omega,A.old,A.t,λh=>(by cases h),A.n⟩
theorem al_seen(N:gG c)(U:pa c B su)(d:B<=90000)(A:AlI c n a)(l:a.at'=0):pa c (B+1) (mf c su a).1/\AlI c n (mf c su a).2:=by
 have m:=round_ge (cls:=(aP a.old).cls) A.n.1 A.n.2;have o:=A.n;have b:AlI c n {a with need:=bF (aP a.old).cls a.n}:=⟨A.at',A.slot,A.steps,by show 0<=bF _ _/\bF _ _<=10000;omega,A.held,A.h3,A.zero,A.old,A.t,A.g,A.n⟩
 unfold mf;split
 ·exact al_closes U d (a:={a with code:=3,point:=a.steps}) ⟨A.at',A.slot,A.steps,A.need,A.held,A.h3,A.zero,A.old,A.t,A.g,A.n⟩ _
 simp only;generalize bF (aP a.old).cls a.n=e at*;split
 ·exact⟨U.mono (Nat.le_succ B),⟨by show 1<=6;omega,b.slot,b.steps,b.need,b.held,λh=>absurd h (by show¬3<=1;omega),λh=>(by cases h),b.old,b.t,λh=>(by cases h),b.n⟩⟩
 split
 ·rename_i j;exact⟨U.mono (Nat.le_succ B),⟨by show 4<=6;omega,b.slot,b.steps,b.need,b.held,λ_ _=>j,λh=>(by cases h),b.old,b.t,λh=>(by cases h),b.n⟩⟩
 split
 ·exact al_closes U d (a:={a with need:=e,code:=6,point:=a.steps}) ⟨b.at',b.slot,b.steps,b.need,b.held,b.h3,b.zero,b.old,b.t,b.g,b.n⟩ _
 ·obtain⟨f,k⟩:=tknew_inv U;generalize jU c su=r at*;have i:AlI c n {a with need:=e,t:=r.2,at':=2}:=⟨by show 2<=6;omega,b.slot,b.steps,b.need,b.held,λh=>absurd h (by show¬3<=2;omega),λh=>(by cases h),b.old,k,λh=>(by cases h),b.n⟩
  split
  ·exact⟨f.mono (Nat.le_succ B),al_taken N i⟩
  ·exact⟨f.mono (Nat.le_succ B),i⟩
theorem al_inv(N:gG c)(M:im c m)(U:pa c B su)(k:B<=90000)(b:AlI c n a):im c (ek c m su a).1/\pa c (B+9) (ek c m su a).2.1/\AlI c (n+1) (ek c m su a).2.2:=by
 have I:=b.steps;have l:0<=a.steps+1/\a.steps+1<=((n+1:Nat):Int):=dB;have e:=U.mono (Nat.le_add_right B 9);have o:B+1<=B+9:=dB;have J:=N.b3;unfold ek;by_cases r:a.done=true
 ·rw[bU r];exact⟨M,e,b.mono (Nat.le_succ n)⟩
 rw[bV r];simp only;have A:AlI c (n+1) {a with steps:=a.steps+1}:=⟨b.at',b.slot,l,b.need,b.held,b.h3,b.zero,b.old,b.t,b.g,b.n⟩
 have y:=iw M.ok.u (iI c a.slot.toNat);by_cases a0:a.at'=0
 ·rw[bU a0];obtain⟨f,i⟩:=al_seen N U k (a:={a with steps:=a.steps+1,old:=cf m (iI c a.slot.toNat)}) ⟨A.at',A.slot,A.steps,A.need,A.held,A.h3,A.zero,⟨y,mem_rt M b.slot⟩,A.t,A.g,A.n⟩ a0;exact⟨M,f.mono o,i⟩
 rw[bV a0];have d:AlI c (n+1) {a with steps:=a.steps+1,at':=0}:=⟨cQ _,A.slot,A.steps,A.need,A.held,λh=>absurd h (by show¬3<=0;omega),λh=>(by cases h),A.old,A.t,λh=>(by cases h),A.n⟩
 by_cases s:a.at'=1
 ·rw[bU s];split
  ·obtain⟨f,i⟩:=al_fine U k d c.2.2.2.2.1 (ed (aP a.old)) (aP a.old).off;exact⟨M.setRt _ b.old.2,f.mono o,i⟩
  ·exact⟨M,e,d⟩
 rw[bV s];by_cases v:a.at'=2
 ·rw[bU v];obtain⟨z,C,D⟩:=tk_inv N M U b.t;generalize eV c m su a.t=q at*;have At:AlI c (n+1) {a with steps:=a.steps+1,t:=q.2.2}:=⟨A.at',A.slot,A.steps,A.need,A.held,A.h3,A.zero,A.old,D,A.g,A.n⟩
  refine⟨z,C.mono dB,?_⟩;split
  ·exact al_taken N At
  ·exact At
 rw[bV v];by_cases p:a.at'=3
 ·rw[bU p];have K:=b.zero p;have j:=b.h3 dB dB;refine⟨M.set (rt_wd _ _) ⟨dm _,by show(0:Int)<=_;omega⟩,e,?_⟩;have L:=N.n3;split
  ·exact⟨by show 4<=6;omega,A.slot,A.steps,A.need,A.held,λ_ _=>j,λh=>(by cases h),A.old,A.t,λh=>(by cases h),A.n⟩
  ·rename_i E;exact⟨A.at',A.slot,A.steps,A.need,A.held,A.h3,λ_=>by show 0<=a.zero+1/\a.zero+1<cK c;omega,A.old,A.t,A.g,A.n⟩
 rw[bV p];by_cases w:a.at'=4
 ·rw[bU w];have j:=b.h3 dB dB;have O:=chunk_rng b.old.2;have:=N.b2;exact⟨M.set (rt_lk _) ⟨dB,dB⟩,e,⟨by show 5<=6;omega,A.slot,A.steps,A.need,A.held,λ_ _=>j,λh=>(by cases h),A.old,A.t,λh=>(by cases h),A.n⟩⟩
 rw[bV w];by_cases x:a.at'=5
 ·rw[bU x];have j:=b.held;split
  ·obtain⟨f,i⟩:=al_fine U k (a:={a with steps:=a.steps+1,at':=0,held:= -1}) ⟨cQ _,A.slot,A.steps,A.need,by show -1<=(-1:Int)/\(-1:Int)<_;omega,λh=>absurd h (by show¬3<=0;omega),λh=>(by cases h),A.old,A.t,λh=>(by cases h),A.n⟩ c.2.2.2.2.1 a.held 0;exact⟨M.setRt _ (by show a.held+2<=_;omega),f.mono o,i⟩
  ·exact⟨M,e,d⟩
 rw[bV x];have F:a.at'=6:=by have:=b.at';omega
 obtain⟨G,H⟩:=gi_inv N M (b.g F);exact⟨G,e,⟨A.at',A.slot,A.steps,A.need,A.held,A.h3,A.zero,A.old,A.t,λ_=>H,A.n⟩⟩
end
section
variable{c:cx}{m m':bd}{B n id:Nat}{su:lC}{k:jE}{op:eu}{x:eN}
def McI(c:cx)(n:Nat)(k:jE):McV->Prop
 | .create x=>k.o.1=1/\CrI c n x/\k.point=x.point/\x.done=false
 | .alloc x=>k.o.1=2/\AlI c n x
 | .enter x=>k.o.1=3/\x.done=false
 | .leave d=>k.o.1=4/\d=false
 | .look x=>(k.o.1=5\/k.o.1=12)/\LkOk c x/\x.done=false
 | .free x=>k.o.1=10/\FrI c n x
 | .collect x=>k.o.1=11/\CoI c x
 | .none=>(6<=k.o.1/\k.o.1<=9)/\(0<=k.h.2.2.1/\k.h.2.2.1<cC c)/\(0<=k.h.2.2.2.1+k.o.2.2.2.1/\k.h.2.2.2.1+k.o.2.2.2.1<cK c)
abbrev grow(c:cx):Nat:=cC c+9
def opU(o:eu):Prop:=sR o.2.2.2.2.1/\sR o.2.2.2.2.2
structure sW(c:cx)(n:Nat)(k:jE):Prop where
 depth:0<=k.depth/\k.depth<=15
 holds:k.holds.length<=8
 steps:0<=k.steps/\k.steps<=n
 su:pa c (n*grow c) k.su
 mc:k.busy=true->McI c n k k.mc
 o:opU k.o
theorem McI.ok{y:McV}(N:gG c)(a:n<=1000000000)(b:B<=90000)(U:pa c B k.su)(h:McI c n k y):McOk c m k y:=by
 cases y with
 |create x=>exact⟨h.1,h.2.1.ok a⟩
 |alloc x=>exact⟨h.1,h.2.ok a⟩
 |enter x=>exact h
 |leave x=>exact h
 |look x=>exact h
 |free x=>exact⟨h.1,h.2.ok N a⟩
 |collect x=>exact⟨h.1,h.2.ok,by have:=(su_ready U (fE (cf m 2))).n;omega⟩
 |none=>exact h
theorem sW.ok(N:gG c)(b:n<=1000000000)(a:n*grow c<=90000)(K:sW c n k):WkOk c m k:=
 ⟨K.depth,by have:=K.holds;omega,by have:=K.steps;omega,(K.su.ok a).1,(K.su.ok a).2,λhb=>(K.mc hb).ok N b a K.su⟩
theorem sW.wm(N:gG c)(a:n<=1000000000)(b:n*grow c<=90000)(M:im c m)(K:sW c n k):WmOk c m k:=
 ⟨M.ok,λhb=>(K.mc hb).ok N a b K.su,λhb hp=>by
  have:=K.mc hb;generalize k.mc=y at this⊢;cases y with
  |create x=>exact this.2.1.slot (this.2.1.pt this.2.2.2 (by rw[<- this.2.2.1];exact hp))
  |_=>trivial⟩
theorem wkI_new:sW c 0 aI:=⟨by show 0<=(0:Int)/\(0:Int)<=15;omega,cQ _,⟨dm _,dm _⟩,su_new.mono (cQ _),λh=>(by cases h),⟨⟨dm _,by show(0:Int)<=_;omega⟩,dm _,by show(0:Int)<=_;omega⟩⟩
theorem McI.mono{a:Nat}{y:McV}(h:McI c n k y)(b:n<=a):McI c a k y:=by
 cases y with
 |create x=>exact⟨h.1,h.2.1.mono b,h.2.2⟩
 |alloc x=>exact⟨h.1,h.2.mono b⟩
 |enter x=>exact h
 |leave x=>exact h
 |look x=>exact h
 |free x=>exact⟨h.1,h.2.at',by have:=h.2.steps;omega,h.2.slot,λe=>by have:=h.2.e e;exact⟨this.at',this.slot,by have:=this.steps;omega,this.old,this.chunk⟩,h.2.ch,h.2.k,h.2.p,h.2.g⟩
 |collect x=>exact h
 |none=>exact h
theorem sW.mono{a:Nat}(K:sW c n k)(h:n<=a):sW c a k:=⟨K.depth,K.holds,by have:=K.steps;omega,K.su.mono (Nat.mul_le_mul_right _ h),λhb=>(K.mc hb).mono h,K.o⟩
theorem sW.ends(a:0<=k.depth/\k.depth<=15)(b:k.holds.length<=8)(d:0<=k.steps/\k.steps<=n)(e:pa c (n*grow c) k.su)(f:opU k.o)(r:jI):sW c n (bO k r):=⟨a,b,d,e,λh=>(by cases h),f⟩
theorem gPin_rng(h:0<=k.depth/\k.depth<=15):(0<=(jV k).2.depth/\(jV k).2.depth<=15)/\(jV k).2.holds=k.holds/\(jV k).2.steps=k.steps/\(jV k).2.su=k.su/\(jV k).2.o=k.o:=by
 unfold jV;split
 ·exact⟨h,rfl,rfl,rfl,rfl⟩
 ·exact⟨by show 0<=k.depth+1/\k.depth+1<=15;omega,rfl,rfl,rfl,rfl⟩
theorem gUnpin_rng(h:0<=k.depth/\k.depth<=15)(a:k.holds.length<=8):(0<=(dJ k).2.depth/\(dJ k).2.depth<=15)/\(dJ k).2.holds.length<=8/\(dJ k).2.steps=k.steps/\(dJ k).2.su=k.su/\(dJ k).2.o=k.o:=by
 unfold dJ;split
 ·exact⟨h,a,rfl,rfl,rfl⟩
 ·simp only;split
  ·exact⟨by show 0<=k.depth-1/\k.depth-1<=15;omega,cQ _,rfl,rfl,rfl⟩
  ·exact⟨by show 0<=k.depth-1/\k.depth-1<=15;omega,a,rfl,rfl,rfl⟩
theorem gHold_rng(c:k.holds.length<=8)(a b:Int):(kF k a b).depth=k.depth/\(kF k a b).holds.length<=8/\(kF k a b).steps=k.steps/\(kF k a b).su=k.su/\(kF k a b).o=k.o:=by
 unfold kF;split
 ·exact⟨rfl,c,rfl,rfl,rfl⟩
 ·rename_i h;have:k.holds.length≠8:=λe=>h (.inr (.inr e));exact⟨rfl,by show(k.holds++ [(a,b)]).length<=8;rw[cq];show k.holds.length+1<=8;omega,rfl,rfl,rfl⟩
theorem oN(N:gG c)(h:iG c x=true):0<=x.1/\x.1<cS c:=by
 unfold iG at h;simp only[cZ,decide_eq_true_eq]at h;have:=N.n4;omega
theorem object_slot(N:gG c)(h:kf c x=true):(0<=x.1/\x.1<cS c)/\(0<=x.2.2.1/\x.2.2.1<cC c)/\0<=x.2.2.2.1/\x.2.2.2.1<=cK c-x.2.2.2.2:=by
 unfold kf at h;simp only[cZ,decide_eq_true_eq]at h;have:=N.n4;have:=N.n2;have:=N.n3;omega
theorem may_rng(h:jR op=true):(1<=op.1/\op.1<=12)/\0<=op.2.2.2.1:=by
 unfold jR at h;simp only[decide_eq_true_eq]at h;exact⟨h.1,h.2.2.2.1.1⟩
theorem wk_start(N:gG c)(K:sW c n k)(f:opU op):sW c n (iV c k op x):=by
 unfold iV;split
 ·exact K
 rename_i l;have l:jR op=true:=by
  cases h:jR op with
  |true=>rfl
  |false=>exact absurd (.inr h) l
 obtain⟨D,E⟩:=may_rng l;have g:(0:Int)<=0/\(0:Int)<=n:=dB;have F:=N.b3;have G:=N.n3;split
 ·exact sW.ends (k:={k with busy:=true,o:=op,h:=x,steps:=0,point:=0,back:=0}) K.depth K.holds g K.su f _
 rename_i a;have a:jF c op x=true:=by simpa using a
 have base:∀y:McV,McI c n {k with busy:=true,o:=op,h:=x,steps:=0,point:=0,back:=0} y->sW c n {k with busy:=true,o:=op,h:=x,steps:=0,point:=0,back:=0,mc:=y}:=λy z=>⟨K.depth,K.holds,g,K.su,λ_=>z,f⟩
 have fin:∀r,sW c n (bO {k with busy:=true,o:=op,h:=x,steps:=0,point:=0,back:=0} r):=λr=>sW.ends (k:={k with busy:=true,o:=op,h:=x,steps:=0,point:=0,back:=0}) K.depth K.holds g K.su f r;unfold jG;by_cases k1:op.1=1
 ·rw[bU k1];exact base _ ⟨k1,(crI_new _).mono (cQ n),rfl,rfl⟩
 rw[bV k1];by_cases k2:op.1=2
 ·rw[bU k2];have hr:iG c x=true:=by unfold jF at a;rw[k2]at a;exact a
  split
  ·exact fin _
  ·rename_i hb;exact base _ ⟨k2,(alI_new (oN N hr) dB).mono (cQ n)⟩
 rw[bV k2];by_cases m:op.1=3
 ·rw[bU m];split
  ·exact base _ ⟨m,rfl⟩
  ·obtain⟨p,q,s,t,u⟩:=gPin_rng (k:={k with busy:=true,o:=op,h:=x,steps:=0,point:=0,back:=0}) K.depth;exact sW.ends p (by rw[q];exact K.holds) (by rw[s];exact g) (by rw[t];exact K.su) (by rw[u];exact f) _
 rw[bV m];by_cases v:op.1=4
 ·rw[bU v];split
  ·exact base _ ⟨v,rfl⟩
  ·obtain⟨p,q,s,t,u⟩:=gUnpin_rng (k:={k with busy:=true,o:=op,h:=x,steps:=0,point:=0,back:=0}) K.depth K.holds;exact sW.ends p q (by rw[s];exact g) (by rw[t];exact K.su) (by rw[u];exact f) _
 rw[bV v];by_cases j:op.1=5
 ·rw[bU j];have hr:iG c x=true\/kf c x=true:=by unfold jF at a;rw[j]at a;simpa [gu]using a
  have w:0<=x.1/\x.1<cS c:=by
   rcases hr with hr|hr
   ·exact oN N hr
   ·exact(object_slot N hr).1
  split
  ·exact fin _
  split
  ·exact fin _
  split
  ·exact fin _
  ·exact base _ ⟨.inl j,⟨w⟩,rfl⟩
 rw[bV j];by_cases b:op.1=10
 ·rw[bU b];have hr:iG c x=true:=by unfold jF at a;rw[b]at a;exact a
  have A:FrI c n (tm x.1 x.2.1):=(McI.mono (k:={k with o:=op}) (y:= .free (tm x.1 x.2.1)) (n:=0) ⟨b,frI_new (oN N hr)⟩ (cQ n)).2;exact base _ ⟨b,A⟩
 rw[bV b];by_cases e:op.1=11
 ·rw[bU e];exact base _ ⟨e,coI_new⟩
 rw[bV e];by_cases d:op.1=12
 ·rw[bU d];have hr:iG c x=true:=by unfold jF at a;rw[d]at a;exact a
  exact base _ ⟨.inr d,⟨oN N hr⟩,rfl⟩
 rw[bV d];have i:6<=op.1/\op.1<=9:=dB;have B:gu op.1=2:=by unfold gu;rw[bV dB,bU i]
 have hr:kf c x=true:=by unfold jF at a;rw[B]at a;exact a
 obtain⟨H,C,I,J⟩:=object_slot N hr;split
 ·exact fin _
 split
 ·exact fin _
 ·rename_i L;exact base _ ⟨i,C,by show 0<=x.2.2.2.1+op.2.2.2.1/\x.2.2.2.1+op.2.2.2.1<cK c;omega⟩
end
section
variable{c:cx}{m m':bd}{B n id:Nat}{su:lC}{k:jE}{op:eu}{x:eN}{a:sQ}
theorem pinW_u(e:Int):sR (pinW e):=by
 unfold pinW;split
 ·constructor<;>omega
 ·constructor<;>omega
theorem touch_inv(M:im c m){cell:Nat}(a:pX c cell)(kind:Int){v b:Int}(hv:sR v)(d:sR b):im c (ie m cell kind v b).1:=by
 unfold ie;split
 ·exact M
 split
 ·exact M.set a hv
 split
 ·exact M.set a (wrapU _)
 split
 ·exact M.set a d
 ·exact M
theorem wk_inv(N:gG c)(M:im c m)(K:sW c n k)(v:n*grow c<=90000)(s:id<cW c):im c (aw c id m k).1/\sW c (n+1) (aw c id m k).2:=by
 have A:(n+1)*grow c=n*grow c+(cC c+9):=by rw[Nat.add_mul,Nat.one_mul]
 have B:=K.steps;have a:0<=k.steps+1/\k.steps+1<=((n+1:Nat):Int):=dB;have b:pa c ((n+1)*grow c) k.su:=K.su.mono dB;by_cases hb:k.busy=false
 ·have e:aw c id m k=(m,k):=by rw[aw,bU hb]
  rw[e];exact⟨M,K.mono (Nat.le_succ n)⟩
 have w:k.busy=true:=by simpa using hb
 have f:=K.mc w;unfold aw;rw[bV hb];simp only;generalize C:k.mc=y at f⊢;cases y with
 |create x=>
  simp only;obtain⟨g,i,p,q⟩:=f;obtain⟨j,l⟩:=cr_inv N M i;generalize eF c m x=r at*;refine⟨j,?_⟩;split
  ·exact(by apply sW.ends<;>first|exact K.depth|exact K.holds|exact a|exact b|exact K.o)
  split
  ·exact(by apply sW.ends<;>first|exact K.depth|exact K.holds|exact a|exact b|exact K.o)
  ·rename_i z;exact⟨K.depth,K.holds,a,b,λ_=>⟨g,l,rfl,by simpa using z⟩,K.o⟩
 |alloc x=>
  simp only;obtain⟨g,i⟩:=f;obtain⟨j,l,t⟩:=al_inv N M K.su v i;generalize ek c m k.su x=r at*;have d:pa c ((n+1)*grow c) r.2.1:=l.mono dB;refine⟨j,?_⟩;split
  ·exact(by apply sW.ends<;>first|exact K.depth|exact K.holds|exact a|exact d|exact K.o)
  ·exact⟨K.depth,K.holds,a,d,λ_=>⟨g,t⟩,K.o⟩
 |enter x=>
  simp only;split
  ·exact⟨M,K.depth,K.holds,a,b,λ_=>⟨f.1,rfl⟩,K.o⟩
  ·obtain⟨g,i,p,q,u⟩:=gPin_rng (k:={k with steps:=k.steps+1,mc:= .enter x,point:=2}) K.depth;exact⟨M.set (rt_pin s) (pinW_u _),sW.ends g (by rw[i];exact K.holds) (by rw[p];exact a) (by rw[q];exact b) (by rw[u];exact K.o) _⟩
 |leave x=>
  simp only;obtain⟨g,i,p,q,u⟩:=gUnpin_rng (k:={k with steps:=k.steps+1,mc:= .leave x,point:=1}) K.depth K.holds;exact⟨M.set (rt_pin s) ⟨dm _,by show(0:Int)<=_;omega⟩,sW.ends g i (by rw[p];exact a) (by rw[q];exact b) (by rw[u];exact K.o) _⟩
 |look x=>
  simp only;split
  ·refine⟨M,?_⟩;split
   ·obtain⟨g,i,p,q,u⟩:=gHold_rng (k:={k with steps:=k.steps+1,mc:= .look x,point:=1}) K.holds k.h.1 k.h.2.1;exact sW.ends (by rw[g];exact K.depth) i (by rw[p];exact a) (by rw[q];exact b) (by rw[u];exact K.o) _
   ·exact(by apply sW.ends<;>first|exact K.depth|exact K.holds|exact a|exact b|exact K.o)
  ·exact⟨M,(by apply sW.ends<;>first|exact K.depth|exact K.holds|exact a|exact b|exact K.o)⟩
 |free x=>
  simp only;obtain⟨g,i⟩:=f;obtain⟨j,l,t⟩:=fr_inv N M K.su v i;generalize et c m k.su x=r at*;have d:pa c ((n+1)*grow c) r.2.1:=l.mono dB;refine⟨j,?_⟩;split
  ·exact(by apply sW.ends<;>first|exact K.depth|exact K.holds|exact a|exact d|exact K.o)
  ·exact⟨K.depth,K.holds,a,d,λ_=>⟨g,t⟩,K.o⟩
 |collect x=>
  simp only;obtain⟨g,i⟩:=f;obtain⟨j,l,t⟩:=co_inv N M K.su v i;generalize fj c m k.su x=r at*;have d:pa c ((n+1)*grow c) r.2.1:=l.mono dB;refine⟨j,?_⟩;split
  ·exact(by apply sW.ends<;>first|exact K.depth|exact K.holds|exact a|exact d|exact K.o)
  ·exact⟨K.depth,K.holds,a,d,λ_=>⟨g,t⟩,K.o⟩
 |none=>
  simp only;exact⟨touch_inv M (rt_wd _ _) _ K.o.1 K.o.2,(by apply sW.ends<;>first|exact K.depth|exact K.holds|exact a|exact b|exact K.o)⟩
structure ArI(c:cx)(n:Nat)(a:sQ):Prop where
 m:im c a.m
 n3:a.ks.length=cW c
 n4:a.at'.length=cW c
 n5:a.open'.length=cW c
 wk:∀i,i<cW c->sW c n (a.ks.getD i aI)
 ops:∀i,(a.ops.getD i []).length<=1000
 opu:∀i,∀o∈a.ops.getD i [],opU o
 at':∀i,i<cW c->0<=a.at'.getD i 0/\a.at'.getD i 0<=(a.ops.getD i []).length
 op:∀i,i<cW c->(a.ks.getD i aI).busy=true->0<=a.open'.getD i 0/\a.open'.getD i 0<a.l.length
 l:a.l.length<=n
 h:a.h.length<=n
 steps:0<=a.steps/\a.steps<=n
theorem ArI.ok(N:gG c)(e:n<=90000)(b:n*grow c<=90000)(A:ArI c n a):ArOk c a:=
 ⟨A.m.ok,λi d=>(A.wk i d).ok N dB b,λi _=>by have:=A.ops i;omega,A.at',A.op,by have:=A.l;omega,by have:=A.h;omega,by have:=A.steps;omega⟩
theorem ArI.mono{b:Nat}(A:ArI c n a)(h:n<=b):ArI c b a:=⟨A.m,A.n3,A.n4,A.n5,λi d=>(A.wk i d).mono h,A.ops,A.opu,A.at',A.op,by have:=A.l;omega,by have:=A.h;omega,by have:=A.steps;omega⟩
theorem ar_begin(N:gG c)(A:ArI c n a){i:Nat}(k:i<cW c)(b:ez a i<(a.ops.getD i []).length):ArI c (n+1) (jz c a i)/\(0<=(jz c a i).open'.getD i 0/\(jz c a i).open'.getD i 0<(jz c a i).l.length):=by
 have p:i<a.ks.length:=by rw[A.n3];exact k
 have r:i<a.at'.length:=by rw[A.n4];exact k
 have hp:i<a.open'.length:=by rw[A.n5];exact k
 obtain⟨op,d⟩:∃op,op=(a.ops.getD i [])[ez a i]:=⟨_,rfl⟩
 have f:(a.ops.getD i []).getD (ez a i) (0,0,0,0,0,0)=op:=by rw[cu,bX b,d];rfl
 have o:opU op:=A.opu i op (by rw[d];exact List.getElem_mem b);obtain⟨s,es⟩:∃s:di,s=⟨i,ez a i,op,a.steps,-1,-1,-1,lR⟩:=⟨_,rfl⟩
 have t:jz c a i={arB0 a i s with h:=a.h++ [fm (a.l++ [s]) s],ks:=a.ks.set i (iV c (a.ks.getD i aI) op (fm (a.l++ [s]) s))}:=by
  unfold jz;simp only[f,<-es]
 have u:=A.l;have v:=A.h;have w:=A.steps;rw[t];have q:0<=(a.open'.set i (a.l.length:Int)).getD i 0/\(a.open'.set i (a.l.length:Int)).getD i 0<((a.l++ [s]).length:Int):=by
  rw[iM _ hp,bU rfl,cq];show 0<=(a.l.length:Int)/\(a.l.length:Int)<((a.l.length+1:Nat):Int);omega
 refine⟨⟨A.m,by rw[cE];exact A.n3,by rw[cE];exact A.n4,by rw[cE];exact A.n5,λj g=>?_,A.ops,A.opu,λj g=>?_,λj g hb=>?_,?_,?_,by show 0<=a.steps/\a.steps<=((n+1:Nat):Int);omega⟩,q⟩
 ·show sW c (n+1) ((a.ks.set i _).getD j aI);rw[iM _ p];split
  ·exact(wk_start N (A.wk i k) o).mono (Nat.le_succ n)
  ·exact(A.wk j g).mono (Nat.le_succ n)
 ·show 0<=(a.at'.set i _).getD j 0/\(a.at'.set i _).getD j 0<=((a.ops.getD j []).length:Int)
  rw[iM _ r];split
  ·rename_i e;subst e;omega
  ·exact A.at' j g
 ·show 0<=(a.open'.set i (a.l.length:Int)).getD j 0/\(a.open'.set i (a.l.length:Int)).getD j 0<((a.l++ [s]).length:Int);have hb:((a.ks.set i (iV c (a.ks.getD i aI) op (fm (a.l++ [s]) s))).getD j aI).busy=true:=hb;by_cases e:j=i
  ·subst e;exact q
  ·rw[iM _ p,bV e]at hb;rw[iM _ hp,bV e,cq];have:=A.op j g hb;show 0<=a.open'.getD j 0/\a.open'.getD j 0<((a.l.length+1:Nat):Int);omega
 ·show(a.l++ [s]).length<=n+1;rw[cq];show a.l.length+1<=n+1;omega
 ·show(a.h++ [fm (a.l++ [s]) s]).length<=n+1;rw[cq];show a.h.length+1<=n+1;omega
theorem ar_go(N:gG c)(o:n*grow c<=90000)(A:ArI c n a){i:Nat}(f:i<cW c):ArI c (n+1) (arGo c a i):=by
 have k:i<a.ks.length:=by rw[A.n3];exact f
 obtain⟨w1,w2⟩:=wk_inv (id:=i) N A.m (A.wk i f) o f;have p:=A.l;have q:=A.h;have s:=A.steps;have e:arGo c a i={a with m:=(aw c i a.m (a.ks.getD i aI)).1,ks:=a.ks.set i (aw c i a.m (a.ks.getD i aI)).2,l:=a.l.set (a.open'.getD i 0).toNat (noteS c (aw c i a.m (a.ks.getD i aI)).1 (aw c i a.m (a.ks.getD i aI)).2 a.steps (a.l.getD (a.open'.getD i 0).toNat spZ)),steps:=a.steps+1}:=rfl;rw[e];have g:(aw c i a.m (a.ks.getD i aI)).2.busy=true->(a.ks.getD i aI).busy=true:=λh=>by
  cases hb:(a.ks.getD i aI).busy with
  |true=>rfl
  |false=>rw[aw,bU hb]at h;rw[<- hb];exact h
 generalize aw c i a.m (a.ks.getD i aI)=r at*;refine⟨w1,by rw[cE];exact A.n3,A.n4,A.n5,λj d=>?_,A.ops,A.opu,A.at',λj d hb=>?_,by rw[cE];omega,by show a.h.length<=n+1;omega,by show 0<=a.steps+1/\a.steps+1<=((n+1:Nat):Int);omega⟩
 ·show sW c (n+1) ((a.ks.set i r.2).getD j aI);rw[iM _ k];split
  ·exact w2
  ·exact(A.wk j d).mono (Nat.le_succ n)
 ·show 0<=a.open'.getD j 0/\a.open'.getD j 0<((a.l.set _ _).length:Int);rw[cE];have b:((a.ks.set i r.2).getD j aI).busy=true:=hb;rw[iM _ k]at b;by_cases e:j=i
  ·rw[bU e]at b;subst e;exact A.op j d (g b)
  ·rw[bV e]at b;exact A.op j d b
theorem ar_pick(N:gG c)(k:(n+2)*grow c<=90000)(r:n+2<=90000)(A:ArI c n a)(x:Int):ArI c (n+2) (oY c a x)/\(gY c a x=true->PkOk c (if(a.ks.getD x.toNat aI).busy then a else jz c a x.toNat) x.toNat):=by
 have l:(n+2)*grow c=n*grow c+2*grow c:=by rw[Nat.add_mul]
 have o:(n+1)*grow c=n*grow c+grow c:=by rw[Nat.add_mul,Nat.one_mul]
 unfold oY;cases b:gY c a x with
 |false=>rw[bU rfl];exact⟨A.mono dB,λh=>by cases h⟩
 |true=>
 rw[bV dC];have p:0<=x/\x<c.1:=by
  unfold gY at b;simp only[cZ,decide_eq_true_eq]at b;exact⟨b.1,b.2.1⟩
 obtain⟨i,q⟩:∃i:Nat,x=i:=⟨x.toNat,(dy p.1).symm⟩
 subst q;have s:=N.n1;have d:i<cW c:=dB;rw[cj];have e:∀f:sQ,ArI c (n+1) f->ArI c (n+2) (arGo c f i)/\PkOk c f i:=λf g=>by
  obtain⟨w1,w2⟩:=wk_inv (id:=i) N g.m (g.wk i d) dB d;exact⟨ar_go N dB g d,(g.wk i d).ok N dB dB,w2.wm N dB k w1⟩
 cases hb:(a.ks.getD i aI).busy with
 |true=>
  obtain⟨k1,k2⟩:=e a (A.mono (Nat.le_succ n));exact⟨by rw[bU rfl];exact k1,λ_=>by rw[bU rfl];exact k2⟩
 |false=>
  have j:ez a i<(a.ops.getD i []).length:=by
   unfold gY at b;rw[cj,hb]at b;simp only[cZ,decide_eq_true_eq,Bool.false_or]at b;exact b.2.2
  obtain⟨k1,k2⟩:=e _ (ar_begin N A d j).1;exact⟨by rw[bV dC];exact k1,λ_=>by rw[bV dC];exact k2⟩
theorem run_ok(N:gG c):∀(p:List Int) (n:Nat) (a:sQ),ArI c n a->n+2*p.length<=90000->(n+2*p.length)*grow c<=90000->RunOk c a p/\ArI c (n+2*p.length) (oL c a p)
 | [],n,a,A,_,_=>⟨trivial,A⟩
 |x::p,n,a,A,f,b=>by
  have d:(x::p).length=p.length+1:=rfl;rw[d]at f b;have e:n+2*(p.length+1)=(n+2)+2*p.length:=dB;have g:(n+2)*grow c<=90000:=cU (Nat.mul_le_mul_right _ dB) b;have i:n*grow c<=90000:=cU (Nat.mul_le_mul_right _ dB) b;obtain⟨k1,k2⟩:=ar_pick N g dB A x;obtain⟨j,k⟩:=run_ok N p (n+2) (oY c a x) k1 dB (by rw[<- e];exact b);exact⟨⟨A.ok N dB i,k2,j⟩,by rw[d,e];exact k⟩
end
end Go.Proofs.YtnpflajdbchghaaGreat
