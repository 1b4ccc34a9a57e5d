/- Parts of the proof of SearchFinds, one behind the other. Conditions: none. -/
import Derived.Test.YtnpflajdbchghaaGreatZSearchFinds13
set_option linter.unusedSimpArgs false
set_option linter.unusedVariables false
set_option maxHeartbeats 8000000
set_option maxRecDepth 10000
noncomputable section
namespace Go.Proofs.YtnpflajdbchghaaGreat
open Tryz(prog underlying22)
open Go Ev Go.RowKit
section
variable{w w0 w1 w2 w':World}{T T0 T1 T2 T':dN}{h:Hm}{c:cP}{m m':bI}{o o' b sb lb q kb wb mb ab:Nat}{a a':tj}{dY:List Nat}{dB opv':List Value}{kv ov av pv lv hv:Value}
theorem dM.offA{cs:List fQ}(H:dM T h c m)(g:Gx (λq=>q=ab) w T w' T')(hT:T ab=some (.st 0 78 cs)):dM T' h c m:=by
 obtain⟨n,a⟩:=H.mT;exact⟨g.off _ _ H.wT (aA H.wT hT dz),g.off _ _ H.pT (aA H.pT hT dz),g.off _ _ H.sT (aA H.sT hT dz),g.off _ _ H.eT (aA H.eT hT dz),n,g.off _ _ a (aA a hT dz)⟩
theorem oM.own(P:oM w T ab h c a dY dB)(g:Gx (λq=>q=ab) w T w' T')(hT:T' ab=some (uz c h.wb (arCof a' dY dB)))(j:a'.m=a.m)(d:a'.ks=a.ks)(f:a'.ops=a.ops)(l:a'.at'.length=a.at'.length)(n:a'.open'.length=a.open'.length):oM w' T' ab h c a' dY dB:=
 ⟨hT,by rw[j];exact P.hm.offA g P.nd,P.n1,P.n2,by rw[d];exact P.n3,by rw[l];exact P.n4,by rw[n];exact P.n5,by rw[f];exact P.n6,λi b=>by
  rw[d];exact(P.wk i b).sQ g λq e cs o=>um o P.nd dy,λi b=>by
  rw[f];obtain⟨A,k,p,r⟩:=P.op i b;exact⟨A,k,p,r.gx g⟩⟩
abbrev arL(a:tj)(j:Nat)(s:dR):tj:={a with l:=a.l.set j s}
def nt1(k:jR)(steps:Int)(s:dR):dR:=if s.pt<0/\(0<k.point\/k.busy=false)then{s with pt:=steps}else s
def nt2(k:jR)(steps:Int)(s:dR):dR:=if s.bk<0/\0<k.back then{s with bk:=steps}else s
def nt3(c:cP)(m:bI)(k:jR)(s:dR):dR:=if 0<=s.pt then{s with re:=jU c m k}else s
def nt4(k:jR)(steps:Int)(s:dR):dR:=if k.busy=false then{s with rs:=steps}else s
theorem noteS_eq(c:cP)(m:bI)(k:jR)(steps:Int)(s:dR):noteS c m k steps s=nt4 k steps (nt3 c m k (nt2 k steps (nt1 k steps s))):=rfl
def NtQ(w:World)(T:dN)(ab:Nat)(h:Hm)(c:cP)(a:tj)(dY:List Nat)(dB:List Value)(j:Nat)(s:dR)(v:Value)(w':World):Prop:=∃T',Gx (λq=>q=ab) w T w' T'/\oM w' T' ab h c (arL a j s) dY dB
theorem NtQ.step{j:Nat}{s:dR}{v:Value}(g:Gx (λq=>q=ab) w T w1 T1)(b:NtQ w1 T1 ab h c a dY dB j s v w'):NtQ w T ab h c a dY dB j s v w':=by
 obtain⟨T',d,P'⟩:=b;exact⟨T',g.trans d,P'⟩
theorem arL_own{j:Nat}{s b:dR}(P:oM w T ab h c (arL a j s) dY dB)(g:Gx (λq=>q=ab) w T w' T')(hT:T' ab=some (uz c h.wb {(arCof (arL a j s) dY dB)with l:=(arL a j s).l.set j b})):oM w' T' ab h c (arL a j b) dY dB:=
 P.own g (by rw[hT];simp only[arL,List.set_set]) rfl rfl rfl rfl rfl
theorem uA{j:Nat}{s:dR}(b:j<a.l.length):(arCof (arL a j s) dY dB).l[j]? =some s:=by
 show(a.l.set j s)[j]? =some s;rw[List.getElem?_set_self b]
theorem oM.wf(P:oM w T ab h c a dY dB)(R:Rel w T){i:Nat}(d:i<cW c):ao (hp w (dY.getD i 0)) (0+5)=some (.bool (a.ks.getD i aI).busy)/\ao (hp w (dY.getD i 0)) (0+18)=some (bS (a.ks.getD i aI).point)/\ao (hp w (dY.getD i 0)) (0+19)=some (bS (a.ks.getD i aI).back):=by
 obtain⟨b,sb,lb,hv,p1,p2,p3,p4,p5,p6,p7,hT,_⟩:=P.wk i d;have hb:hp w (dY.getD i 0)=_:=R.kW hT;rw[hb];exact⟨rfl,rfl,rfl⟩
theorem l_note2{i j:Nat}(o:i<cW c)(p:j<a.l.length){s:dR}(R:Rel w T)(P:oM w T ab h c (arL a j s) dY dB):
  P103_2 (ptr ab) (ptr (dY.getD i 0)) (bS j) w (NtQ w T ab h c a dY dB j (nt4 (a.ks.getD i aI) a.steps s)):=by
 apply L103_2_ok;obtain⟨kv,ov,av,pv,lv,hv,F⟩:=ar_f R P.nd;obtain⟨v,x,f8,y,q,k,r,b,f0⟩:=F.ld;have d:ao (hp w (dY.getD i 0)) (0+5)=some (.bool (a.ks.getD i aI).busy):=(P.wf R o).1;cases hb:(a.ks.getD i aI).busy with
 |true=>
  rw[hb]at d;have e:nt4 (a.ks.getD i aI) a.steps s=s:=by rw[nt4,bY (by rw[hb];decide)]
  rw[e];simp -implicitDefEqProofs (maxSteps:=3000000) only[L103_2,ptr,ae,ac,bj,aB,d,zS];exact⟨T,Gx.refl R,P⟩
 |false=>
  rw[hb]at d;have e:nt4 (a.ks.getD i aI) a.steps s={s with rs:=a.steps}:=by rw[nt4,bX hb]
  rw[e];have f:=(ad.refl [] w).drew;have t:=F.aw R P.nd f;obtain⟨g,u,_,st⟩:=ar_sp (R.aw f) P.nd t (i:=j) (s:=s) (uA p);have b:ao (hp w ab) (0+13)=some (bS a.steps):=b;simp -implicitDefEqProofs (maxSteps:=3000000) only[L103_2,ptr,ae,ac,bj,kB,s7,gS,aB,ag,iV,d,k,b,u,zS];refine st 3 (bS a.steps) 1 11 {s with rs:=a.steps} _ aE ⟨rfl,rfl,dz⟩ dy rfl λw' T' n m _=>?_;exact⟨T',(Gx.bV R f).trans n,arL_own (P.aw R f) n m⟩
theorem l_note1(N:gM c)(M:eu c a.m){i j:Nat}(q:i<cW c)(n:j<a.l.length)(C:(a.ks.getD i aI).busy=true->McOk c a.m (a.ks.getD i aI) (a.ks.getD i aI).mc)(r:(a.ks.getD i aI).busy=true->(a.ks.getD i aI).point≠0->PtOk c (a.ks.getD i aI) (a.ks.getD i aI).mc){s:dR}(R:Rel w T)(P:oM w T ab h c (arL a j s) dY dB):
  P103_1 (ptr ab) (ptr (dY.getD i 0)) (bS j) w (NtQ w T ab h c a dY dB j (nt4 (a.ks.getD i aI) a.steps (nt3 c a.m (a.ks.getD i aI) s))):=by
 apply L103_1_ok (D:=λ_=>False);obtain⟨kv,ov,av,pv,lv,hv,F⟩:=ar_f R P.nd;obtain⟨O,Q,f8,S,E,d,G,H,f0⟩:=F.ld;have t:=(ad.refl [] w).drew;obtain⟨g,o,rd,_⟩:=ar_sp R P.nd F (i:=j) (s:=s) (uA n);have A:ao (hp w g) (j*20+9)=some (bS s.pt):=rd 9 dy;by_cases p:0<=s.pt
 ·have x:s.pt>=0:=p;have e:nt3 c a.m (a.ks.getD i aI) s={s with re:=jU c a.m (a.ks.getD i aI)}:=by rw[nt3,bX p]
  rw[e];simp -implicitDefEqProofs (maxSteps:=3000000) only[L103_1,ptr,ae,ac,kB,lj,ag,iV,d,o,A,pf,x,decide_true,p9,not_false_eq_true,true_and,zS];refine(c_Will (k:=a.ks.getD i aI) N (R.aw t) P.hm M ((P.aw R t).wk i q) C r).mono ?_;rintro _ w1 ⟨u,rfl,B⟩;refine⟨bJ B,?_⟩;have b:=t.trans B;have I:=F.aw R P.nd b;have J:=R.aw b;obtain⟨U,f,_,st⟩:=ar_sp J P.nd I (i:=j) (s:=s) (uA n);rw[o]at f;cases f;simp -implicitDefEqProofs (maxSteps:=3000000) only[jk,jm,ae,ac,jg,o,zS];refine st 35 (.agg (oH (jU c a.m (a.ks.getD i aI)))) 8 12 {s with re:=jU c a.m (a.ks.getD i aI)} _ sz_35 ⟨rfl,rfl,dz⟩ dy rfl λw' T' y z _=>?_;refine Part.mono (l_note2 q n y.rel (arL_own (P.aw R b) y z)) λv K L=>?_;exact NtQ.step ((Gx.bV R b).trans y) L
 ·have x:¬s.pt>=0:=p;have e:nt3 c a.m (a.ks.getD i aI) s=s:=by rw[nt3,bY p]
  rw[e];simp -implicitDefEqProofs (maxSteps:=3000000) only[L103_1,ptr,ae,ac,kB,lj,ag,iV,d,o,A,pf,x,decide_false,zS];exact l_note2 q n R P
theorem l_note0(N:gM c)(M:eu c a.m){i j:Nat}(q:i<cW c)(o:j<a.l.length)(x:(a.ks.getD i aI).busy=true->McOk c a.m (a.ks.getD i aI) (a.ks.getD i aI).mc)(b:(a.ks.getD i aI).busy=true->(a.ks.getD i aI).point≠0->PtOk c (a.ks.getD i aI) (a.ks.getD i aI).mc){s:dR}(R:Rel w T)(P:oM w T ab h c (arL a j s) dY dB):
  P103_0 (ptr ab) (ptr (dY.getD i 0)) (bS j) w (NtQ w T ab h c a dY dB j (nt4 (a.ks.getD i aI) a.steps (nt3 c a.m (a.ks.getD i aI) (nt2 (a.ks.getD i aI) a.steps s)))):=by
 apply L103_0_ok;obtain⟨kv,ov,av,pv,lv,hv,F⟩:=ar_f R P.nd;obtain⟨J,K,f8,L,C,d,D,f,f0⟩:=F.ld;have f:ao (hp w ab) (0+13)=some (bS a.steps):=f;have r:=(ad.refl [] w).drew;obtain⟨g,t,rd,_⟩:=ar_sp R P.nd F (i:=j) (s:=s) (uA o);have k:ao (hp w g) (j*20+10)=some (bS s.bk):=rd 10 dy;have B:ao (hp w (dY.getD i 0)) (0+19)=some (bS (a.ks.getD i aI).back):=(P.wf R q).2.2;by_cases y:s.bk<0/\0<(a.ks.getD i aI).back
 ·obtain⟨n,u⟩:=y;have E:(a.ks.getD i aI).back>0:=u;have e:nt2 (a.ks.getD i aI) a.steps s={s with bk:=a.steps}:=by rw[nt2,bX ⟨n,u⟩]
  rw[e];have G:=F.aw R P.nd r;obtain⟨O,p,_,st⟩:=ar_sp (R.aw r) P.nd G (i:=j) (s:=s) (uA o);rw[t]at p;cases p;simp -implicitDefEqProofs (maxSteps:=3000000) only[L103_0,ptr,ae,ac,kB,s7,fa_172_9,fa_39_5,ag,iV,d,f,t,k,B,aU,iH,n,E,decide_true,zS];refine st 3 (bS a.steps) 1 10 {s with bk:=a.steps} _ aE ⟨rfl,rfl,dz⟩ dy rfl λw' T' z A _=>?_;refine Part.mono (l_note1 N M q o x b z.rel (arL_own (P.aw R r) z A)) λv H I=>?_;exact NtQ.step ((Gx.bV R r).trans z) I
 ·have e:nt2 (a.ks.getD i aI) a.steps s=s:=by rw[nt2,bY y]
  rw[e];by_cases n:s.bk<0
  ·have u:¬(a.ks.getD i aI).back>0:=λh=>y ⟨n,h⟩;simp -implicitDefEqProofs (maxSteps:=3000000) only[L103_0,ptr,ae,ac,kB,fa_172_9,fa_39_5,ag,iV,d,t,k,B,aU,iH,n,u,decide_true,decide_false,zS];exact l_note1 N M q o x b R P
  ·simp -implicitDefEqProofs (maxSteps:=3000000) only[L103_0,ptr,ae,ac,kB,fa_39_5,ag,iV,d,t,k,aU,n,decide_false,zS];exact l_note1 N M q o x b R P
theorem c_note(N:gM c)(R:Rel w T)(P:oM w T ab h c a dY dB)(M:eu c a.m){i:Nat}(x:i<cW c)(S:0<=a.open'.getD i 0/\a.open'.getD i 0<a.l.length)(U:(a.ks.getD i aI).busy=true->McOk c a.m (a.ks.getD i aI) (a.ks.getD i aI).mc)(y:(a.ks.getD i aI).busy=true->(a.ks.getD i aI).point≠0->PtOk c (a.ks.getD i aI) (a.ks.getD i aI).mc):
  aa prog 103 [ptr ab,bS i] w (NtQ w T ab h c a dY dB (a.open'.getD i 0).toNat (noteS c a.m (a.ks.getD i aI) a.steps (a.l.getD (a.open'.getD i 0).toNat spZ))):=by
 obtain⟨j,H⟩:∃j:Nat,a.open'.getD i 0=j:=⟨(a.open'.getD i 0).toNat,(du S.1).symm⟩
 rw[H,cq];have b:j<a.l.length:=by rw[H]at S;omega
 have W:a.l[j]? =some (a.l.getD j spZ):=by rw[cu,bZ b];rfl
 generalize a.l.getD j spZ=s at*;have d:oM w T ab h c (arL a j s) dY dB:=by
  have:arL a j s=a:=by
   have:a.l.set j s=a.l:=by
    apply List.ext_getElem?;intro k;by_cases V:j=k
    ·subst V;rw[List.getElem?_set_self b,W]
    ·rw[List.getElem?_set_ne V]
   show{a with l:=a.l.set j s}=a;rw[this]
  rw[this];exact P
 apply F103_ok;obtain⟨kv,ov,av,pv,lv,hv,F⟩:=ar_f R d.nd;obtain⟨f6,D,f8,f9,f,n,X,o,f0⟩:=F.ld;have o:ao (hp w ab) (0+13)=some (bS a.steps):=o;have I:=(ad.refl [] w).drew;have p:=I.trans (ad.refl [] w.drew).drew;obtain⟨g,z,rd,_⟩:=ar_sp R d.nd F (i:=j) (s:=s) (uA b);have E:ao (hp w g) (j*20+9)=some (bS s.pt):=rd 9 dy;obtain⟨gk,ik,lk⟩:=d.kbl F x;obtain⟨Y,io,u,_⟩:=ar_op R d.nd F (i:=i) (by show i<a.open'.length;rw[P.n5];exact x);have u:ao (hp w Y) i=some (bS j):=by rw[<- H];exact u
 obtain⟨r,A,_⟩:=d.wf R x;have r:ao (hp w (dY.getD i 0)) (0+5)=some (.bool (a.ks.getD i aI).busy):=r;have A:ao (hp w (dY.getD i 0)) (0+18)=some (bS (a.ks.getD i aI).point):=A;rw[noteS_eq];have t:∀w1,ad [] w w1->P103_0 (ptr ab) (ptr (dY.getD i 0)) (bS j) w1 (NtQ w T ab h c a dY dB j (nt4 (a.ks.getD i aI) a.steps (nt3 c a.m (a.ks.getD i aI) (nt2 (a.ks.getD i aI) a.steps s)))):=λw1 J=>by
  refine Part.mono (l_note0 N M x b U y (R.aw J) (d.aw R J)) λv K L=>?_;exact NtQ.step (Gx.bV R J) L
 by_cases G:s.pt<0/\(0<(a.ks.getD i aI).point\/(a.ks.getD i aI).busy=false)
 ·obtain⟨q,h2⟩:=G;have e:nt1 (a.ks.getD i aI) a.steps s={s with pt:=a.steps}:=by rw[nt1,bX ⟨q,h2⟩]
  rw[e];have Z:=F.aw R d.nd p;obtain⟨g1,B,_,st⟩:=ar_sp (R.aw p) d.nd Z (i:=j) (s:=s) (uA b);rw[z]at B;cases B;have fin:dE prog (Instr.storeAt 3 (.pointer (some ⟨g,j*20+9,none⟩)) (bS a.steps)) w.drew.drew λw1=>P103_0 (ptr ab) (ptr (dY.getD i 0)) (bS j) w1 (NtQ w T ab h c a dY dB j (nt4 (a.ks.getD i aI) a.steps (nt3 c a.m (a.ks.getD i aI) (nt2 (a.ks.getD i aI) a.steps {s with pt:=a.steps})))):=by
   refine st 3 (bS a.steps) 1 9 {s with pt:=a.steps} _ aE ⟨rfl,rfl,dz⟩ dy rfl λw' T' O Q _=>?_;refine Part.mono (l_note0 N M x b U y O.rel (arL_own (d.aw R p) O Q)) λv K L=>?_;exact NtQ.step ((Gx.bV R p).trans O) L
  simp -implicitDefEqProofs only[ptr]at fin;by_cases C:(a.ks.getD i aI).point>0
  ·simp -implicitDefEqProofs (maxSteps:=3000000) only[F103,ptr,ae,ac,mC,s6,kB,s7,bj,eU,lj,ag,aB,aH,iV,ld_75,si,D,f,n,o,z,E,ik,lk,io,u,r,A,aU,iH,q,C,decide_true,zS];exact fin
  ·have hb:(a.ks.getD i aI).busy=false:=by
    rcases h2 with h2|h2
    ·exact absurd h2 C
    ·exact h2
   rw[hb]at r;simp -implicitDefEqProofs (maxSteps:=3000000) only[F103,ptr,ae,ac,mC,s6,kB,s7,bj,eU,lj,ag,aB,aH,iV,ld_75,si,D,f,n,o,z,E,ik,lk,io,u,r,A,aU,iH,q,C,decide_true,decide_false,zS];exact fin
 ·have e:nt1 (a.ks.getD i aI) a.steps s=s:=by rw[nt1,bY G]
  rw[e];simp -implicitDefEqProofs only[ptr]at t;by_cases q:s.pt<0
  ·have C:¬(a.ks.getD i aI).point>0:=λh=>G ⟨q,.inl h⟩;have hb:(a.ks.getD i aI).busy=true:=by
    cases hb:(a.ks.getD i aI).busy with
    |true=>rfl
    |false=>exact absurd ⟨q,.inr hb⟩ G
   rw[hb]at r;simp -implicitDefEqProofs (maxSteps:=3000000) only[F103,ptr,ae,ac,mC,s6,kB,bj,eU,lj,ag,aB,aH,iV,ld_75,si,D,f,n,z,E,ik,lk,io,u,r,A,aU,iH,q,C,decide_true,decide_false,zS];exact t _ I
  ·simp -implicitDefEqProofs (maxSteps:=3000000) only[F103,ptr,ae,ac,mC,s6,kB,bj,eU,lj,ag,aB,aH,iV,ld_75,si,D,f,n,z,E,ik,lk,io,u,aU,q,decide_false,zS];exact t _ I
end
section
variable{w w0 w1 w2 w':World}{T T0 T1 T2 T':dN}{h:Hm}{c:cP}{m m':bI}{o o' b sb lb q kb wb mb ab:Nat}{a a':tj}{dY:List Nat}{dB opv':List Value}{kv ov av pv lv hv:Value}
theorem iX{α:Type}(l:List α){i:Nat}(a:i<l.length)(x d:α)(k:Nat):(l.set i x).getD k d=if k=i then x else l.getD k d:=by
 rw[cu,cu];by_cases h:k=i
 ·subst h;rw[List.getElem?_set_self a,bX rfl];rfl
 ·rw[List.getElem?_set_ne (λe=>h e.symm),bY h]
theorem oM.stepped(P:oM w T ab h c a dY dB){i:Nat}(o:i<cW c)(g:Gx (fV h T (i+1)) w T w' T')(p:dM T' h c m'){f:jR}(q:uw w' T' (i+1) (dY.getD i 0) h c i f):oM w' T' ab h c {a with m:=m',ks:=a.ks.set i f} dY dB:=by
 have j:i<a.ks.length:=by rw[P.n3];exact o
 refine⟨g.off _ _ P.nd λb=>?_,p,P.n1,P.n2,by rw[cE];exact P.n3,P.n4,P.n5,P.n6,λk l=>?_,λk l=>?_⟩
 ·rcases b with b|⟨e,cs,b⟩
  ·obtain⟨n,r⟩:=P.hm.mT;have:=P.nd;rw[b,r]at this;have this:=Option.some.inj this;simp only[memN,uz,Nod.st.injEq]at this;exact absurd this.2.1 dz
  ·have:=P.nd;rw[b]at this;have this:=Option.some.inj this;simp only[uz,Nod.st.injEq]at this;omega
 ·show uw w' T' (k+1) (dY.getD k 0) h c k ((a.ks.set i f).getD k aI);rw[iX _ j];by_cases d:k=i
  ·subst d;rw[bX rfl];exact q
  ·rw[bY d];exact(P.wk k l).other P.hm dy dy g
 ·obtain⟨A,n,s,t⟩:=P.op k l;exact⟨A,n,s,t.gx g⟩
def PkQ(w:World)(T:dN)(ab:Nat)(h:Hm)(c:cP)(dY:List Nat)(dB:List Value)(a':tj)(v:Value)(w':World):Prop:=v= .bool true/\∃T',Gx (λ_=>True) w T w' T'/\oM w' T' ab h c a' dY dB
theorem PkQ.step{v:Value}{S:Nat->Prop}(g:Gx S w T w1 T1)(a:PkQ w1 T1 ab h c dY dB a' v w'):PkQ w T ab h c dY dB a' v w':=by
 obtain⟨e,T',b,P'⟩:=a;exact⟨e,T',(g.mono λ_ _=>trivial).trans b,P'⟩
structure WmOk(c:cP)(m:bI)(k:jR):Prop where
 mem:eu c m
 mc:k.busy=true->McOk c m k k.mc
 pt:k.busy=true->k.point≠0->PtOk c k k.mc
theorem l_pick1(N:gM c)(R:Rel w T)(P:oM w T ab h c a dY dB){i:Nat}(b:i<cW c)(M:eu c a.m)(s:WkOk c a.m (a.ks.getD i aI))(t:0<=a.open'.getD i 0/\a.open'.getD i 0<a.l.length)(B:0<=a.steps/\a.steps<=1000000000)(d:WmOk c (aF c i a.m (a.ks.getD i aI)).1 (aF c i a.m (a.ks.getD i aI)).2):
  P58_1 (ptr ab) (bS i) (ptr (dY.getD i 0)) w (PkQ w T ab h c dY dB (arGo c a i)):=by
 apply L58_1_ok;rw[L58_1];have e:i<a.ks.length:=by rw[P.n3];exact b
 refine(c_Step N R P.hm dy (P.wk i b) M b s).mono ?_;rintro _ w1 ⟨_,T1,f,u,v⟩;have x:=P.stepped b f u v;have y:arGo c a i={a with m:=(aF c i a.m (a.ks.getD i aI)).1,ks:=a.ks.set i (aF c i a.m (a.ks.getD i aI)).2,l:=a.l.set (a.open'.getD i 0).toNat (noteS c (aF c i a.m (a.ks.getD i aI)).1 (aF c i a.m (a.ks.getD i aI)).2 a.steps (a.l.getD (a.open'.getD i 0).toNat spZ)),steps:=a.steps+1}:=rfl;rw[y];generalize aF c i a.m (a.ks.getD i aI)=r at*;have g:(a.ks.set i r.2).getD i aI=r.2:=by rw[iX _ e,bX rfl]
 have p:=c_note (i:=i) N f.rel x d.mem b t (by simp only[g];exact d.mc) (by simp only[g];exact d.pt);simp only[g]at p;refine p.mono ?_;rintro _ w2 ⟨T2,j,k⟩;obtain⟨kv,ov,av,pv,lv,hv,q⟩:=ar_f j.rel k.nd;have n:ao (hp w2 ab) (0+13)=some (bS a.steps):=q.ld.2.2.2.2.2.2.2.1;have z:IntKind.i64.wrap (a.steps+1)=a.steps+1:=ap dy dy;simp -implicitDefEqProofs (maxSteps:=3000000) only[ptr,ae,ac,s7,ag,n,aj,z];refine ar_steps j.rel k.nd q (a.steps+1) λC A g3 o=>?_;exact⟨rfl,A,((f.mono λ_ _=>trivial).trans (j.mono λ_ _=>trivial)).trans (g3.mono λ_ _=>trivial),k.own g3 o rfl rfl rfl rfl rfl⟩
theorem op_box{w:World}{x:Value}{op:ez}{K:Value->World->Prop}(c:∀q w',w.heap.size<=q->ad [] w w'->hp w' q=some (.cells (dC op).toArray 37)->K (bU q) w'):
  dF prog (Instr.alloc 37 true x) w λt w1=>dE prog (Instr.storeAt 37 t (.agg (dC op).toArray)) w1 λw2=>K t w2:=by
 rw[al_37];generalize b:World.alloc _ _=w1;have d:ad [] w w1:=by rw[<- b];exact(ad.refl _ _).alloc _
 have a:hp w1 w.heap.size=some (.cells (dC (0,0,0,0,0,0)).toArray 37):=by rw[<- b,af,bX rfl];rfl
 rw[st_37 rfl rfl (by rw[a,aT];exact cj (by show 6<=6;omega)) (by rw[a];rfl),a];exact c _ _ (cy _) (d.put (.inr (cy _)) _ _) (aq (oG a) _ _)
theorem st_hnA{w:World}{e:TypeId}{x a:eF}{q:Nat}{L:World->Prop}(hb:hp w q=some (.cells (rq a) e)):dE prog (Instr.storeAt 32 (bU q) (.agg (rq x))) w L=L (put w q (rq x) e):=by
 rw[st_32 rfl rfl (by rw[hb,aT];exact cj (by show 5<=5;omega)) (by rw[hb];rfl),hb];rfl
abbrev arB0(a:tj)(i:Nat)(s:dR):tj:={a with at':=a.at'.set i (eE a i+1),open':=a.open'.set i a.l.length,l:=a.l++ [s]}
theorem l_pick0(N:gM c)(R:Rel w T)(P:oM w T ab h c a dY dB){i:Nat}(t:i<cW c){op:ez}{x:eF}{f e:Nat}(u:hp w f=some (.cells (dC op).toArray 37)/\T f=none)(g:hp w e=some (.cells (rq x) 32)/\T e=none)(j:0<=(a.ks.getD i aI).depth/\(a.ks.getD i aI).depth<=15)(k:(a.ks.getD i aI).holds.length<=100)(I:a.h.length<=100000)
  (next:∀{w':World} {T':dN},Rel w' T'->oM w' T' ab h c {a with h:=a.h++ [x],ks:=a.ks.set i (jj c (a.ks.getD i aI) op x)} dY dB->P58_1 (ptr ab) (bS i) (ptr (dY.getD i 0)) w' (PkQ w' T' ab h c dY dB a')):
  P58_0 (ptr ab) (bS i) (ptr (dY.getD i 0)) (ptr f) (ptr e) w (PkQ w T ab h c dY dB a'):=by
 apply L58_0_ok;obtain⟨kv,ov,av,pv,lv,hv,F⟩:=ar_f R P.nd;obtain⟨J,K,f8,L,y,z,l,A,f0⟩:=F.ld;have b:=(ad.refl [] w).drew;have B:=R.aw b;have Fd:=F.aw R P.nd b;have C:fR prog 32 (bU e) w.drew=some (.agg (rq x)):=sP (w:=w.drew) (b.at g.1 (by simp));rw[L58_0];simp -implicitDefEqProofs (maxSteps:=3000000) only[ptr,ae,ac,fa_78_7,sh,l,C,zS];refine ps_76 (x:=hv) (xs:=a.h.flatMap bB) (n:=a.h.length) (base:=0) (by simp) Fd.rh dy (cX _) λM w1 D m o=>?_;refine ar_addH B P.nd Fd x (jF m) o D λw2 T2 d p O=>?_;have q:oM w2 T2 ab h c {a with h:=a.h++ [x]} dY dB:=(P.aw R b).own d p rfl rfl rfl rfl rfl;have r:=d.loc (b.at u.1 (by simp)) u.2;have s:=d.loc (b.at g.1 (by simp)) g.2;simp -implicitDefEqProofs (maxSteps:=3000000) only[ac,ld_opA r.1,sP s.1];refine(c_Start N d.rel q.hm dy (q.wk i t) j k op x).mono ?_;rintro _ Q ⟨_,U,g3,H3,E⟩;have G:=q.stepped t g3 H3 E;refine Part.mono (next g3.rel G) λv w' H=>?_;exact PkQ.step (Gx.bV (S:=λ_=>True) R b) (PkQ.step d (PkQ.step g3 H))
end
section
variable{w w0 w1 w2 w':World}{T T0 T1 T2 T':dN}{h:Hm}{c:cP}{m m':bI}{o o' b sb lb q kb wb mb ab:Nat}{a a':tj}{dY:List Nat}{dB opv':List Value}{kv ov av pv lv hv:Value}
structure ArOk(c:cP)(a:tj):Prop where
 m:eu c a.m
 wk:∀i,i<cW c->WkOk c a.m (a.ks.getD i aI)
 ops:∀i,i<cW c->(a.ops.getD i []).length<=100000
 at':∀i,i<cW c->0<=a.at'.getD i 0/\a.at'.getD i 0<=(a.ops.getD i []).length
 op:∀i,i<cW c->(a.ks.getD i aI).busy=true->0<=a.open'.getD i 0/\a.open'.getD i 0<a.l.length
 l:a.l.length<=100000
 h:a.h.length<=100000
 steps:0<=a.steps/\a.steps<=1000000000
structure PkOk(c:cP)(a:tj)(i:Nat):Prop where
 wk:WkOk c a.m (a.ks.getD i aI)
 go:WmOk c (aF c i a.m (a.ks.getD i aI)).1 (aF c i a.m (a.ks.getD i aI)).2
theorem c_Pick(N:gM c)(R:Rel w T)(P:oM w T ab h c a dY dB)(A:ArOk c a)(x:Int)
  (A1:hM c a x=true->PkOk c (if(a.ks.getD x.toNat aI).busy then a else jN c a x.toNat) x.toNat):
  aa prog 58 [ptr ab,bS x] w λv w'=>v= .bool (hM c a x)/\∃T',Gx (λ_=>True) w T w' T'/\oM w' T' ab h c (px c a x) dY dB:=by
 apply F58_ok;rw[F58];refine(c_Left R P N x A.ops A.at').mono ?_;rintro _ w1 ⟨rfl,J⟩;have K:=R.aw J;have u:=P.aw R J;cases f:hM c a x with
 |false=>
  have e:px c a x=a:=by rw[px,bX f]
  simp only[ac,zS];rw[e];exact⟨by trivial,T,Gx.bV R J,u⟩
 |true=>
 have k:=A1 f;have hx:0<=x/\x<c.1:=by
  unfold hM at f;simp only[de,decide_eq_true_eq]at f;exact⟨f.1,f.2.1⟩
 obtain⟨i,ei⟩:∃i:Nat,x=i:=⟨x.toNat,(du hx.1).symm⟩
 subst ei;have n1:=N.n1;have b:i<cW c:=dy;rw[cq]at k;have e0:px c a (i:Nat)=arGo c (if(a.ks.getD i aI).busy then a else jN c a i) i:=by rw[px,bY (by rw[f];decide),cq]
 rw[e0];obtain⟨kv,ov,av,pv,lv,hv,F⟩:=ar_f K u.nd;obtain⟨f6,f7,f8,f9,q,r,a6,a7,f0⟩:=F.ld;obtain⟨gk,ik,lk⟩:=u.kbl F b;have fb:=u.busy K b;cases hb:(a.ks.getD i aI).busy with
 |true=>
  rw[hb]at fb k;simp only[if_true]at k⊢;simp only[ptr,ae,ac,mC,bj,aB,ld_75,si,f7,ik,lk,fb,zS];refine Part.mono (l_pick1 N K u b A.m k.wk (A.op i b hb) A.steps k.go) λv w' hq=>?_;obtain⟨e,T',g',P'⟩:=hq;exact⟨e,T',(Gx.bV (S:=λ_=>True) R J).trans g',P'⟩
 |false=>
 rw[hb]at fb k;have L:eE a i<(a.ops.getD i []).length:=by
  unfold hM at f;rw[cq,hb]at f;simp only[de,decide_eq_true_eq,Bool.false_or]at f;exact f.2.2
 simp only[Bool.false_eq_true,if_false]at k⊢;obtain⟨op,M⟩:∃op,op=(a.ops.getD i [])[eE a i]:=⟨_,rfl⟩
 have O:(a.ops.getD i []).getD (eE a i) (0,0,0,0,0,0)=op:=by rw[cu,bZ L,M];rfl
 obtain⟨s,es⟩:∃s:dR,s=⟨i,eE a i,op,a.steps,-1,-1,-1,lV⟩:=⟨_,rfl⟩
 have eB:jN c a i={arB0 a i s with h:=a.h++ [bO (a.l++ [s]) s],ks:=a.ks.set i (jj c (a.ks.getD i aI) op (bO (a.l++ [s]) s))}:=by
  unfold jN;simp only[O,<-es]
 rw[eB]at k⊢;have a8:=(A.wk i b).depth;have a9:=(A.wk i b).holds;simp only[ptr,ae,ac,mC,bj,aB,ld_75,si,f7,ik,lk,fb,zS];refine(c_ahead K u b (A.ops i b) (A.at' i b)).mono ?_;rintro _ w2 ⟨rfl,c2⟩;have y:=J.trans c2;have R2:=R.aw y;have P2:=P.aw R y;have F2:=F.aw K u.nd c2;obtain⟨go,Ao,ko,io,lo,el⟩:=P2.ol F2 b;obtain⟨bo,oo,i3,l3⟩:=el _ L;rw[<- M]at l3;have b1:=F2.ld.2.2.1;simp only[ac,sZ,ld_70,oe,b1,io,lo,i3,l3];refine op_box λq7 Q b2 c3 b7=>?_;have n7:T q7=none:=R2.fresh b2;have U:=(ad.refl [] Q).drew;have z:=(y.trans c3).trans U;have R3:=R.aw z;have P3:=P.aw R z;have F3:=F2.aw R2 P2.nd (c3.trans U);obtain⟨f6,f7,f8,f9,q,r,a6,a7,f0⟩:=F3.ld;have b3:hp Q.drew q7=some (.cells (dC op).toArray 37):=b7;obtain⟨V,W,B,_,_,_⟩:=aG F3.rl;have B:lv= .slice V a.l.length W:=B;have ew:IntKind.i64.wrap ((eE a i:Int)+1)=(eE a i:Int)+1:=by have:=A.ops i b;exact ap dy dy
 obtain⟨g1,i1,_,b4⟩:=ar_at R3 P3.nd F3 (i:=i) (by show i<a.at'.length;rw[P.n4];exact b);have f9:ao (hp Q ab) (0+9)=some av:=f9;have q:ao (hp Q ab) (0+10)=some pv:=q;have r:ao (hp Q ab) (0+11)=some (.slice V a.l.length W):=by rw[<- B];exact r
 simp only[ac,fa_78_4,s6,kB,aH,iV,ff,f9,q,r,i1,aj,ew,zS];refine b4 ((eE a i:Int)+1) _ λw4 T4 g4 X F4=>?_;have P4:oM w4 T4 ab h c {a with at':=a.at'.set i (eE a i+1)} dY dB:=P3.own g4 X rfl rfl rfl (by simp) rfl;have Y:=g4.loc b3 n7;obtain⟨g2,i2,_,b5⟩:=ar_op g4.rel X F4 (i:=i) (by show i<a.open'.length;rw[P.n5];exact b);simp only[ac,i2];refine b5 a.l.length _ λI T5 C D F5=>?_;have P5:oM I T5 ab h c {a with at':=a.at'.set i (eE a i+1),open':=a.open'.set i a.l.length} dY dB:=P4.own C D rfl rfl rfl rfl (by simp);have E:=C.loc Y.1 Y.2;have g:=(ad.refl [] I).drew;have R5:=C.rel.aw g;have Z:=F5.aw C.rel D g;have b6:fR prog 37 (bU q7) I.drew=some (.agg (dC op).toArray):=ld_opA (w:=I.drew) E.1;have c4:ao (hp I ab) (0+13)=some (bS a.steps):=F5.ld.2.2.2.2.2.2.2.1;have c5:ao (hp I ab) (0+11)=some lv:=F5.ld.2.2.2.2.2.1;have c6:ai prog (Instr.build 39 #[(0,bS i),(1,bS (eE a i:Nat)),(2,.agg (dC op).toArray),(3,bS a.steps),(4,bS (-1)),(5,bS (-1)),(6,bS (-1))])=some (.agg (jV s)):=by rw[es];exact tB
 simp only[ac,s7,ag,b6,c4,c5,c6,zS];have d8:=A.l;refine ps_26 (x:=lv) (xs:=a.l.flatMap ji) (n:=a.l.length) (base:=0) (by simp) Z.rl dy (cX _) λv6 w6 o6 c7 d1=>?_;refine ar_addL R5 D Z s (jF c7) d1 o6 λo T7 t d2 F7=>?_;have P7:oM o T7 ab h c (arB0 a i s) dY dB:=(P5.aw C.rel g).own t d2 rfl rfl rfl rfl rfl;have a1:=t.loc (g.at E.1 (by simp)) E.2;have d3:Gx (λ_=>True) w T o T7:=((((Gx.bV (S:=λ_=>True) R z).trans (g4.mono λ_ _=>trivial)).trans (C.mono λ_ _=>trivial)).trans (Gx.bV C.rel g)).trans (t.mono λ_ _=>trivial);obtain⟨A7,a2,e7,d4,_,_⟩:=aG F7.rl;have e7:v6= .slice A7 (a.l++ [s]).length a2:=e7;have d5:ao (hp o ab) (0+11)=some (.slice A7 (a.l++ [s]).length a2):=by rw[<- e7];exact F7.ld.2.2.2.2.2.1
 have a3:(a.l++ [s]).length=a.l.length+1:=by simp
 have d6:IntKind.i64.wrap (((a.l++ [s]).length:Int)-1)=(a.l.length:Int):=by rw[a3,ap dy dy];omega
 have d:=(ad.refl [] o).drew;have d9:=t.rel.aw d;have e1:=P7.aw t.rel d;have hX:sE (a.l++ [s]) (a.l.length:Nat)=bO (a.l++ [s]) s:=by
  rw[nO dy];congr 1;simp
 have a4:ed o A7 ((a.l++ [s]).flatMap ji):=d4;have fin:∀(j:World) (q8:Nat),ad [] o j->o.heap.size<=q8->hp j q8=some (.cells (rq (bO (a.l++ [s]) s)) 32)->P58_0 (ptr ab) (bS i) (ptr (dY.getD i 0)) (ptr q7) (ptr q8) j λv w'=>v= .bool true/\∃T',Gx (λ_=>True) w T w' T'/\oM w' T' ab h c (arGo c {arB0 a i s with h:=a.h++ [bO (a.l++ [s]) s],ks:=a.ks.set i (jj c (a.ks.getD i aI) op (bO (a.l++ [s]) s))} i) dY dB:=by
  intro j q8 p d7 b8;refine Part.mono (l_pick0 (a:=arB0 a i s) (op:=op) (x:=bO (a.l++ [s]) s) N (t.rel.aw p) (P7.aw t.rel p) b ⟨p.at a1.1 (by simp),a1.2⟩ ⟨b8,t.rel.fresh d7⟩ a8 a9 A.h fun{w9 T9} R9 P9=>l_pick1 N R9 P9 b A.m k.wk ?_ A.steps k.go) λv w' hq=>?_
  ·show 0<=(a.open'.set i a.l.length).getD i 0/\(a.open'.set i a.l.length).getD i 0<(a.l++ [s]).length;rw[iX _ (by rw[P.n5];exact b),bX rfl,a3];omega
  ·obtain⟨e,T',g',P'⟩:=hq;exact⟨e,T',(d3.trans (Gx.bV t.rel p)).trans g',P'⟩
 simp only[ptr]at fin;simp only[ac,ff,d5,aZ,d6];refine⟨?_,?_⟩
 ·rw[al_32];generalize G:World.alloc _ _=j;have p:ad [] o j:=by rw[<- G];exact d.alloc _
  have b8:hp j o.drew.heap.size=some (.cells (rq kY) 32):=by rw[<- G,af,bX rfl];rfl
  clear G;refine(sG dy (a4.an p.below) (a.l.length:Nat)).mono ?_;rintro _ w9 ⟨rfl,c9⟩;rw[hX];have b9:=c9.at b8 (by simp);have eh:(bB (bO (a.l++ [s]) s)).toArray=rq (bO (a.l++ [s]) s):=rfl;rw[eh,st_hnA b9];exact fin _ _ ((p.trans c9).put (.inr (cy _)) _ _) (cy _) (aq (oG b9) _ _)
 ·refine(sG dy (a4.an d.below) (a.l.length:Nat)).mono ?_;rintro _ j ⟨rfl,p⟩;rw[hX,al_32];generalize H:World.alloc _ _=w9;have c9:ad [] j w9:=by rw[<- H];exact(ad.refl _ _).alloc _
  have b9:hp w9 j.heap.size=some (.cells (rq kY) 32):=by rw[<- H,af,bX rfl];rfl
  clear H;have eh:(bB (bO (a.l++ [s]) s)).toArray=rq (bO (a.l++ [s]) s):=rfl;have a5:o.heap.size<=j.heap.size:=(d.trans p).size;rw[eh,st_hnA b9];exact fin _ _ (((d.trans p).trans c9).put (.inr a5) _ _) a5 (aq (oG b9) _ _)
end
section
variable{w w0 w1 w2 w':World}{T T0 T1 T2 T':dN}{h:Hm}{c:cP}{m m':bI}{o o' b sb lb q kb wb mb ab:Nat}{a a':tj}{dY:List Nat}{dB opv':List Value}{kv ov av pv lv hv:Value}
def RunOk(c:cP):tj->List Int->Prop
 |_, []=>True
 |a,x::p=>ArOk c a/\(hM c a x=true->PkOk c (if(a.ks.getD x.toNat aI).busy then a else jN c a x.toNat) x.toNat)/\RunOk c (px c a x) p
theorem l_run(N:gM c){A:Option Addr}{p:List Int}{k:Nat}(g:p.length<=1000000):∀(r:List Int) (j:Nat) (i:Int),p.drop j=r->∀{w:World} {T:dN} {a:tj},Rel w T->oM w T ab h c a dY dB->Lo w T A (ints p)->RunOk c a r->j<=p.length->
  P28_0 (ptr ab) (.slice A p.length k) (bS i) (bS j) w λv w'=>(∃ n,v=bS n)/\∃T',Gx (λ_=>True) w T w' T'/\oM w' T' ab h c (oZ c a r) dY dB
 | [],j,i,b,w,T,a,R,P,L,O,t=>by
  apply L28_0_ok;have l:p.length<=j:=by
   have:=congrArg List.length b;simp at this;omega
  have u:¬(j:Int)<p.length:=dy;simp only[L28_0,aK,ac,aU,u,decide_false,zS];exact⟨⟨_,rfl⟩,T,Gx.refl R,P⟩
 |x::r,j,i,b,w,T,a,R,P,L,O,t=>by
  apply L28_0_ok;have l:j<p.length:=by
   have:=congrArg List.length b;simp at this;omega
  have y:p[j]? =some x:=by
   have:(p.drop j)[0]? =some x:=by rw[b];rfl
   rwa[List.getElem?_drop,Nat.add_zero]at this
  have m:(j:Int)<p.length:=dy;obtain⟨q,f,z,B,_⟩:=L.int y k;simp only[L28_0,aK,ac,aU,m,decide_true,z,ag,B,zS];refine(c_Pick N R P O.1 x O.2.1).mono ?_;rintro _ w1 ⟨rfl,T1,o,C⟩;have d:∀s:Int,P28_1 (ptr ab) (.slice A p.length k) (bS s) (bS j) w1 λv w'=>(∃ n,v=bS n)/\∃T',Gx (λ_=>True) w T w' T'/\oM w' T' ab h c (oZ c a (x::r)) dY dB:=λs=>by
   apply L28_1_ok;have D:IntKind.i64.wrap ((j:Int)+1)=((j+1:Nat):Int):=by rw[ap dy dy];omega
   simp only[L28_1,aj,D,ac];refine Part.mono (l_run N g r (j+1) s (by rw[<- List.drop_drop,b];rfl) o.rel C (L.gx o) O.2.2 dy) λv w' E=>?_;obtain⟨e,T',F,P'⟩:=E;exact⟨e,T',o.trans F,P'⟩
  cases hM c a x with
  |true=>
   simp only[ac,aj,zS];exact d _
  |false=>
   simp only[zS];exact d _
theorem c_Run(N:gM c)(R:Rel w T)(P:oM w T ab h c a dY dB){A:Option Addr}{p:List Int}{k:Nat}(b:p.length<=1000000)(L:Lo w T A (ints p))(O:RunOk c a p):
  aa prog 28 [ptr ab,.slice A p.length k] w λv w'=>(∃ n,v=bS n)/\∃T',Gx (λ_=>True) w T w' T'/\oM w' T' ab h c (oZ c a p) dY dB:=by
 apply F28_ok;exact l_run N b p 0 0 rfl R P L O (cX _)
end
theorem Ev.eff_app1{P:Program}{w:World}{K:Value->World->Prop}{t y e F:TypeId}{z:Value}{v x:Value}{i:TypeInfo}{base n b:Nat}{xs:List Value}(A:P.underlying t=some (.slice e))(B:P.info? e=some i)(C:i.zero=some z)(m:i.size=1)(o:z.cells.size=1)(hv:v.oneCell'=true)
  (d:w.ownsRow base e 1 x n xs) (l:n+1<=maxLen) (a:(n+1)*i.bytes<=140737488355328) (f:base<=w.heap.size) (hb:hp w b=some (.cells #[v] F))
  (p:∀x' w',w'.ownsRow base e 1 x' (n+1) (xs++ [v])->aW (λq=>x.ownBlock=some q) w w'->iB w x x'->K x' w'):
  dF P (Builtin.append_ #[t,t] y #[x,.slice (some ⟨b,0,none⟩) 1 1]) w K:=by
 have c:∀j u, [v][j]? =some u->w.cell? ((⟨b,0,none⟩:Addr).add j)=some u:=λj u G=>by rw[eR,gi,hb,aN];simpa using G
 have D:∀u∈ [v],u.oneCell'=true:=λu H=>by rw[dh.1 H];exact hv
 have r: [v].length=1*i.size:=by rw[m];rfl
 obtain⟨x',w',E,I,g,_⟩:=run_append_own (P:=P) w base t y e i z 1 i.bytes A B C m rfl o dy x n xs d ⟨b,0,none⟩ 1 1 [v] (by simp) c D l a f;have s:=append_new A B C dy (by rw[m];exact d) r c D l a E;exact effv_of E (p x' w' I ⟨g.os,g.tape,g.output,g.size,λk p l=>g.block k p λe=>l e.symm⟩ s)
section
variable{w w0 w1 w2 w':World}{T T0 T1 T2 T':dN}{h:Hm}{c:cP}{m m':bI}{o o' b sb lb q kb wb mb ab:Nat}{a a':tj}{dY:List Nat}{dB opv':List Value}{kv ov av pv lv hv:Value}
theorem app_int{n:Nat}{x:Int}{v:Value}{l:List Value}{d:TypeId}{K:Value->World->Prop}(a:w.ownsRow 0 3 1 v n l)(k:n+1<=1000000)(hb:hp w b=some (.cells #[bS x] d))
  (e:∀v' w',w'.ownsRow 0 3 1 v' (n+1) (l++ [bS x])->aW (λq=>v.ownBlock=some q) w w'->iB w v v'->K v' w'):dF prog (Builtin.append_ #[22,22] 22 #[v,.slice (some ⟨b,0,none⟩) 1 1]) w K:=by
 obtain⟨i,f,g,j,c⟩:=mR;exact Ev.eff_app1 underlying22 f g j rfl rfl a (by unfold maxLen;omega) (by rw[c];omega) (cX _) hb e
theorem c_SupplyX(N:gM c)(R:Rel w T)(H:dM T h c m)(o:Nat):aa prog 96 [ptr h.wb] w λv w'=>(∃ b sb lb T',v=ptr b/\Gx (λ_=>False) w T w' T'/\fX w' T' o b sb lb h c suNew)/\ad [] w w':=by
 apply F96_ok;have f:ao (hp w h.wb) (0+0+4)=some (bS c.2.2.2.2.1):=by rw[R.kW H.wT];rfl
 simp only[F96,ptr,ae,ac,bR,fa_25_4,ag,f];refine(c_NewStash R N.b5 o).mono ?_;rintro _ w1 ⟨sb,T1,rfl,_,g,e,i⟩;refine(c_NewLimbo e.rel o).mono ?_;rintro _ w2 ⟨lb,T2,rfl,_,j,d,k⟩;have a:ai prog (Instr.build 215 #[(0,ptr h.wb),(1,ptr sb),(2,ptr lb)])=some (.agg #[ptr h.wb,ptr sb,ptr lb]):=bd_215_0_1_2;simp only[ptr]at a;simp only[ptr,a,ak,au,ac];have g3:=Gx.p8 (S:=λ_=>False) d.rel o 215 [ptr h.wb,ptr sb,ptr lb];exact⟨⟨w2.heap.size,sb,lb,_,rfl,(e.trans d).trans g3,ax,(i.gx d (λh=>h)).gx g3 (λh=>h),k.gx g3 (λh=>h)⟩,(g.trans j).alloc _⟩
theorem c_WkNewX(N:gM c)(R:Rel w T)(H:dM T h c m)(o id:Nat):aa prog 56 [ptr h.wb,bS id] w λv w'=>(∃ kb T',v=ptr kb/\Gx (λ_=>False) w T w' T'/\uw w' T' o kb h c id aI)/\ad [] w w':=by
 apply F56_ok;simp only[F56,ptr];refine(c_SupplyX N R H o).mono ?_;rintro _ w1 ⟨⟨b,sb,lb,T1,rfl,d,f⟩,g⟩;have a:ai prog (Instr.build 172 #[(0,ptr h.wb),(1,bS id),(2,ptr b)])=some (.agg (mW h.wb id b aI (.slice none 0 0) none none none none none none none)):=bd_172_0_1_2;simp only[ptr]at a;simp only[ptr,a,ak,au,ac];have e:=Gx.p8 (S:=λ_=>False) d.rel o 172 (mW h.wb id b aI (.slice none 0 0) none none none none none none none).toList;exact⟨⟨w1.heap.size,_,rfl,d.trans e,b,sb,lb,.slice none 0 0,none,none,none,none,none,none,none,ax,f.no e,⟨none,0,rfl,cy _,Lo.nil _ _ _⟩,trivial⟩,g.alloc _⟩
abbrev l0(dY:List Nat)(dB:List Value)(i:Nat):ArC:=⟨dY.map ptr,dB,List.replicate i 0,List.replicate i (-1), [], [],0⟩
structure OpsL(w:World)(T:dN)(A:Option Addr)(ops:List (List ez))(vs:List Value):Prop where
 n:vs.length=ops.length
 r:Lo w T A vs
 e:∀i,i<ops.length->∃A k,vs[i]? =some (.slice A (ops.getD i []).length k)/\Lo w T A ((ops.getD i []).flatMap dC)
theorem OpsL.gx{S:Nat->Prop}{A:Option Addr}{ops:List (List ez)}{vs:List Value}(O:OpsL w T A ops vs)(g:Gx S w T w' T'):OpsL w' T' A ops vs:=
 ⟨O.n,O.r.gx g,λi a=>by obtain⟨A,k,b,c⟩:=O.e i a;exact⟨A,k,b,c.gx g⟩⟩
structure NaS(w0:World)(T0:dN)(q:Nat)(A:Option Addr)(ops:List (List ez))(vs:List Value)(c:cP)(h:Hm)(ab ik io ia:Nat)(dY:List Nat)(dB:List Value)(m:bI)(w:World)(T:dN):Prop where
 g:Gx (λ_=>True) w0 T0 w T
 nd:T ab=some (uz c h.wb (l0 dY dB ia))
 hm:dM T h c m
 n1:dY.length=ik
 n2:dB.length=io
 wk:∀k,k<ik->uw w T (k+1) (dY.getD k 0) h c k aI
 op:∀k,k<io->∃A n,dB[k]? =some (.slice A (ops.getD k []).length n)/\Lo w T A ((ops.getD k []).flatMap dC)
 q:hp w q=some (.cells (dK c).toArray 25)/\T q=none
 o:OpsL w T A ops vs
section
variable{A:Option Addr}{ops:List (List ez)}{vs:List Value}{ik io ia:Nat}
theorem NaS.gx(X:NaS w0 T0 q A ops vs c h ab ik io ia dY dB m w T)(g:Gx (λ_=>False) w T w' T'):NaS w0 T0 q A ops vs c h ab ik io ia dY dB m w' T':=
 ⟨X.g.trans (g.mono λ_ _=>trivial),g.off _ _ X.nd (λh=>h),X.hm.no g,X.n1,X.n2,λk a=>(X.wk k a).sQ g λ_ _ _ _ h=>h,λk a=>by obtain⟨A,n,b,d⟩:=X.op k a;exact⟨A,n,b,d.gx g⟩,g.loc X.q.1 X.q.2,X.o.gx g⟩
theorem NaS.addK{b:Nat}(X:NaS w0 T0 q A ops vs c h ab ik io ia dY dB m w T)(K:uw w T (ik+1) b h c ik aI)(g:Gx (λq=>q=ab) w T w' T')(hT:T' ab=some (uz c h.wb {l0 dY dB ia with ks:=(l0 dY dB ia).ks++ [ptr b]})):NaS w0 T0 q A ops vs c h ab (ik+1) io ia (dY++ [b]) dB m w' T':=by
 refine⟨X.g.trans (g.mono λ_ _=>trivial),by rw[hT];simp[l0],X.hm.offA g X.nd,by simp[X.n1],X.n2,λk d=>?_,λk d=>by obtain⟨A,n,f,i⟩:=X.op k d;exact⟨A,n,f,i.gx g⟩,g.loc X.q.1 X.q.2,X.o.gx g⟩;have e:(dY++ [b]).getD k 0=if k<ik then dY.getD k 0 else b:=by
  have j:=X.n1;rw[cu,cu];by_cases h:k<ik
  ·rw[bX h,List.getElem?_append_left dy]
  ·rw[bY h,List.getElem?_append_right dy,show k-dY.length=0 by omega];rfl
 rw[e];by_cases h:k<ik
 ·rw[bX h];exact(X.wk k h).sQ g λq e cs a=>um a X.nd dy
 ·rw[bY h,show k=ik by omega];exact K.sQ g λq e cs a=>um a X.nd dy
theorem NaS.addO{a:Option Addr}{n9:Nat}(X:NaS w0 T0 q A ops vs c h ab ik io ia dY dB m w T)(L:Lo w T a ((ops.getD io []).flatMap dC))(g:Gx (λq=>q=ab) w T w' T')(hT:T' ab=some (uz c h.wb {l0 dY dB ia with ops:=(l0 dY dB ia).ops++ [.slice a (ops.getD io []).length n9]})):NaS w0 T0 q A ops vs c h ab ik (io+1) ia dY (dB++ [.slice a (ops.getD io []).length n9]) m w' T':=by
 refine⟨X.g.trans (g.mono λ_ _=>trivial),by rw[hT],X.hm.offA g X.nd,X.n1,by simp[X.n2],λk b=>(X.wk k b).sQ g λq e cs d=>um d X.nd dy,λk b=>?_,g.loc X.q.1 X.q.2,X.o.gx g⟩;have j:=X.n2;by_cases h:k<io
 ·obtain⟨A,n,f,i⟩:=X.op k h;exact⟨A,n,by rw[List.getElem?_append_left dy];exact f,i.gx g⟩
 ·have b:k=io:=dy;subst b;exact⟨a,n9,by rw[List.getElem?_append_right dy,show k-dB.length=0 by omega];rfl,L.gx g⟩
theorem NaS.add2(X:NaS w0 T0 q A ops vs c h ab ik io ia dY dB m w T)(g:Gx (λq=>q=ab) w T w' T')(hT:T' ab=some (uz c h.wb {l0 dY dB ia with at':=(l0 dY dB ia).at'++ [0],op:=(l0 dY dB ia).op++ [-1]})):NaS w0 T0 q A ops vs c h ab ik io (ia+1) dY dB m w' T':=
 ⟨X.g.trans (g.mono λ_ _=>trivial),by rw[hT];simp only[l0,List.replicate_succ'],X.hm.offA g X.nd,X.n1,X.n2,λk a=>(X.wk k a).sQ g λq e cs b=>um b X.nd dy,λk a=>by obtain⟨A,n,d,f⟩:=X.op k a;exact⟨A,n,d,f.gx g⟩,g.loc X.q.1 X.q.2,X.o.gx g⟩
theorem l_na2{i:Nat}{x1:Value}{H:Option Addr}{n9:Nat}{Q:Value->World->Prop}(hi:i<1000)(X:NaS w0 T0 q A ops vs c h ab (i+1) i i dY dB m w T)(L9:Lo w T H ((ops.getD i []).flatMap dC))
  (next:∀{w':World} {T':dN} {opv':List Value},NaS w0 T0 q A ops vs c h ab (i+1) (i+1) (i+1) dY opv' m w' T'->P26_3 x1 (ptr q) (ptr ab) (bS i) w' Q):
  P26_2 x1 (ptr q) (ptr ab) (bS i) (.slice H (ops.getD i []).length n9) w Q:=by
 apply L26_2_ok;rw[L26_2];obtain⟨kv,ov,av,pv,lv,hv,F⟩:=ar_f X.g.rel X.nd;have f8:=F.ld.2.2.1;have n2:=X.n2;simp only[ptr,ae,ac,sZ,ld_70,f8];refine ps_70 (x:=ov) (xs:=dB) (n:=dB.length) (base:=0) (by simp) F.ro dy (cX _) λv1 w1 o1 I J=>?_;try simp only[ae,ac,sZ]
 refine ar_addO X.g.rel X.nd F _ (jF I) J o1 λw2 T2 g2 f E=>?_;have X2:=X.addO L9 g2 f;have u:=g2.rel;obtain⟨f6,f7,f8,f9,L,a5,a6,a7,f0⟩:=E.ld;have ra:∀{a:World},ad [] w2 a->qe a T2 ab c h.wb {l0 dY dB i with ops:=(l0 dY dB i).ops++ [.slice H (ops.getD i []).length n9]} kv v1 av pv lv hv:=λl=>E.aw u f l;have M:(l0 dY dB i).at'.length=i:=by simp[]
 have O:(l0 dY dB i).op.length=i:=by simp[]
 have v:∀p,pv.ownBlock=some p->T2 p=some (.own ab 10):=(E.n.each 10 _ pv rfl rfl).2;have j:∀p,av.ownBlock=some p->T2 p=some (.own ab 9):=(E.n.each 9 _ av rfl rfl).2;have two:∀(a b t:World) (r:Nat) (z:TypeId) (u1:Value),ad [] w2 a->b.ownsRow 0 3 1 u1 ((l0 dY dB i).at'.length+1) (ints (l0 dY dB i).at'++ [bS 0])->aW (λq=>av.ownBlock=some q) a b->iB a av u1->ad [] b t->hp t r=some (.cells #[bS (-1)] z)->
   dF prog (Builtin.append_ #[22,22] 22 #[pv,.slice (some ⟨r,0,none⟩) 1 1]) t λP w=>dE prog (Instr.storeAt 22 (.pointer (some ⟨ab,0+9,none⟩)) u1) w λw=>dE prog (Instr.storeAt 22 (.pointer (some ⟨ab,0+10,none⟩)) P) w λw=>P26_3 x1 (ptr q) (ptr ab) (bS i) w Q:=by
  intro a b t r z u1 l o3 B R S U;have F3:=ra l;have V:t.ownsRow 0 3 1 pv (l0 dY dB i).op.length (ints (l0 dY dB i).op):=(B.sq (aW.bV S _)).row F3.rp λp hp W=>by
   have h1:=v p hp;rw[j p W]at h1;cases h1
  refine app_int V (by rw[O];omega) U λu2 w6 o6 Y Z=>?_;have o5:t.ownsRow 0 3 1 u1 ((l0 dY dB i).at'.length+1) (ints (l0 dY dB i).at'++ [bS 0]):=(aW.bV S (λ_=>False)).row o3 λ_ _ h=>h;exact ar_add2 (u.aw l) f F3 0 (-1) (B.sq (aW.bV S _)) R o5 Y Z o6 λw7 T7 g7 a1 _=>next ((X2.gx (Gx.bV u l)).add2 g7 a1)
 have one:∀(a:World) (bA:Nat) (z:TypeId) (K:Value->World->Prop),ad [] w2 a->hp a bA=some (.cells #[bS 0] z)->(∀ u1 b,b.ownsRow 0 3 1 u1 ((l0 dY dB i).at'.length+1) (ints (l0 dY dB i).at'++ [bS 0])->aW (λq=>av.ownBlock=some q) a b->iB a av u1->ao (hp b ab) (0+10)=some pv->K u1 b)->
   dF prog (Builtin.append_ #[22,22] 22 #[av,.slice (some ⟨bA,0,none⟩) 1 1]) a K:=by
  intro a bA z K l a2 hk;have F3:=ra l;refine app_int F3.ra (by rw[M];omega) a2 λu1 b o4 C a3=>?_;refine hk u1 b o4 C a3 ?_;have a4:=(u.aw l).lt ab _ f;have e:hp b ab=hp a ab:=C.block ab a4 λh=>by have:=j ab h;rw[f]at this;cases this
  rw[e];exact F3.ld.2.2.2.2.1
 simp only[ptr]at two;have al:∀(a:World) (x:Int),ad [] w2 a->ad [] w2 (a.alloc (.cells #[bS x] 3)):=λa x l=>l.alloc _;have d:=(ad.refl [] w2).drew;simp only[ac,fa_78_4,s6,aH,f9,L,bs_22_1,zS];have an:∀{a b:World} {r:Nat} {x:Obj},w2.heap.size<=r->hp a r=some x->aW (λq=>av.ownBlock=some q) a b->hp b r=some x:=fun{a b r x} hs hx ch=>ch.at hx λW=>by
  have:=u.lt _ _ (j r W);omega
 have G:w2.drew.heap.size=w2.heap.size:=rfl;have s:∀(a:World) (x:Int),hp (a.alloc (.cells #[bS x] 3)) a.heap.size=some (.cells #[bS x] 3):=λa x=>by rw[af,bX rfl]
 have oA:∀(a:World) (x y:Int),hp ((a.alloc (.cells #[bS x] 3)).alloc (.cells #[bS y] 3)) a.heap.size=some (.cells #[bS x] 3):=λa x y=>by
  rw[af,bY (by rw[ah];omega)];exact s a x
 have sA:∀(a:World) (x:Int),(a.alloc (.cells #[bS x] 3)).heap.size=a.heap.size+1:=λa x=>ah _ _;refine⟨⟨⟨?_,?_⟩,?_⟩,⟨?_,?_⟩,?_⟩
 ·refine one _ _ _ _ (al _ _ (al _ _ d)) (oA _ 0 (-1)) λu1 b o ch k _=>?_;exact two _ b b _ _ u1 (al _ _ (al _ _ d)) o ch k (ad.refl _ _) (an (by rw[sA,G];omega) (s _ (-1)) ch)
 ·refine one _ _ _ _ (al _ _ d) (s _ 0) λu1 b o ch k _=>?_;exact two _ b _ _ _ u1 (al _ _ d) o ch k ((ad.refl _ _).alloc _) (s _ (-1))
 ·refine one _ _ _ _ (al _ _ (al _ _ d)) (s _ 0) λu1 b o ch k _=>?_;exact two _ b b _ _ u1 (al _ _ (al _ _ d)) o ch k (ad.refl _ _) (an (by rw[G];omega) (oA _ (-1) 0) ch)
 ·refine one _ _ _ _ (al _ _ (al _ _ d)) (oA _ 0 (-1)) λu1 b o ch k D=>?_;rw[D,ac];exact two _ b b _ _ u1 (al _ _ (al _ _ d)) o ch k (ad.refl _ _) (an (by rw[sA,G];omega) (s _ (-1)) ch)
 ·refine one _ _ _ _ (al _ _ d) (s _ 0) λu1 b o ch k D=>?_;rw[D,ac];exact two _ b _ _ _ u1 (al _ _ d) o ch k ((ad.refl _ _).alloc _) (s _ (-1))
 ·refine one _ _ _ _ (al _ _ (al _ _ d)) (s _ 0) λu1 b o ch k D=>?_;rw[D,ac];exact two _ b b _ _ u1 (al _ _ (al _ _ d)) o ch k (ad.refl _ _) (an (by rw[G];omega) (oA _ (-1) 0) ch)
end
end
section
variable{w w0 w1 w2 w':World}{T T0 T1 T2 T':dN}{h:Hm}{c:cP}{m m':bI}{o o' b sb lb q kb wb mb ab kk:Nat}{a a':tj}{dY:List Nat}{dB opv':List Value}{kv ov av pv lv hv:Value}{A:Option Addr}{ops:List (List ez)}{vs:List Value}{ik io ia:Nat}
theorem opC_int(l:List ez):∀u∈l.flatMap dC,∃k x,u= .int k x:=λu a=>by
 obtain⟨o,_,h⟩:=List.mem_flatMap.1 a;simp only[dC,dg,dk,or_false]at h;rcases h with rfl|rfl|rfl|rfl|rfl|rfl<;>exact⟨_,_,rfl⟩
def NaQ(w0:World)(T0:dN)(q:Nat)(A:Option Addr)(ops:List (List ez))(vs:List Value)(c:cP)(h:Hm)(ab:Nat)(m:bI)(v:Value)(w':World):Prop:=v= .tuple #[ptr ab,bS 0]/\∃T' dY dB,NaS w0 T0 q A ops vs c h ab (cW c) (cW c) (cW c) dY dB m w' T'
theorem l_na1(N:gM c)(d:∀i,i<ops.length->(ops.getD i []).length<=1000):∀(f i:Nat),i+f=cW c->∀{w:World} {T:dN} {dY:List Nat} {dB:List Value},NaS w0 T0 q A ops vs c h ab i i i dY dB m w T->
  P26_1 (.slice A ops.length kk) (ptr q) (ptr ab) (bS i) w (NaQ w0 T0 q A ops vs c h ab m)
 |0,i,hf,w,T,dY,dB,X=>by
  apply L26_1_ok;have hi:i=cW c:=dy;subst hi;have n1:=N.n1;obtain⟨t,_⟩:=cfl X.q.1;have hz:¬((cW c:Nat):Int)<c.1:=dy;simp only[L26_1,ptr,ae,ac,eS,ag,t,aU,hz,decide_false,zS];exact⟨by first|rfl|trivial,T,dY,dB,X⟩
 |f+1,i,hf,w,T,dY,dB,X=>by
  apply L26_1_ok;have n1:=N.n1;have a1:=N.b1;obtain⟨t,_⟩:=cfl X.q.1;have u:(i:Int)<c.1:=dy;obtain⟨kv,ov,av,pv,lv,hv,F⟩:=ar_f X.g.rel X.nd;obtain⟨f6,f7,f8,f9,a2,a3,a4,a5,f0⟩:=F.ld;have y:=(ad.refl [] w).drew;have R:=X.g.rel;rw[L26_1];simp only[ptr,ae,ac,eS,fa_78_1,mC,ag,ld_75,gp,t,f6,f7,aU,u,decide_true,zS];refine mu (c_WkNewX N (R.aw y) X.hm (i+1) i) ?_;rintro v w1 ⟨kb,T1,rfl,Q,K1⟩ c1;have z:=y.trans c1;have B:=(Gx.bV (S:=λ_=>False) R y).trans Q;have C:=X.gx B;have U:=Q.rel;have V:qe w1 T1 ab c h.wb (l0 dY dB i) kv ov av pv lv hv:=qe.of U C.nd (z.at F.n.hb (by simp));have D:(l0 dY dB i).ks.length=i:=by simp[X.n1]
  simp only[ptr];refine ps_75 (x:=kv) (xs:=(l0 dY dB i).ks) (n:=(l0 dY dB i).ks.length) (base:=0) (by simp) V.rk (by rw[D];omega) (cX _) λv2 w2 o2 E G=>?_;try simp only[ae,ac,mC]
  refine ar_addK U C.nd V (ptr kb) (jF E) G o2 λw3 W g3 H F3=>?_;have k:=C.addK K1 g3 H;have Y:=g3.rel;have a:∀{w':World} {T':dN} {opv':List Value},NaS w0 T0 q A ops vs c h ab (i+1) (i+1) (i+1) (dY++ [kb]) opv' m w' T'->P26_3 (.slice A ops.length kk) (ptr q) (ptr ab) (bS i) w' (NaQ w0 T0 q A ops vs c h ab m):=fun{w' T' opv'} X'=>by
   apply L26_3_ok;have ei:IntKind.i64.wrap ((i:Int)+1)=((i+1:Nat):Int):=by rw[ap dy dy];omega
   simp only[L26_3,aj,ei,ac];exact l_na1 N d f (i+1) dy X'
  simp only[ptr]at a;by_cases l:i<ops.length
  ·have b:(i:Int)<ops.length:=dy;obtain⟨Ai,ki,e1,Li⟩:=k.o.e i l;obtain⟨bo,oo,i1,Z,_⟩:=k.o.r.rd.elem1 (P:=prog) (s:=70) (n:=ops.length) (c:=kk) (j:= .i64) (i:=(i:Int)) Tryz.underlying70 sz_116 (by rw[k.o.n];omega) dy dy;rw[cq,e1]at Z;simp only[uh,ac,aU,b,decide_true,i1,oe,Z,zS];obtain⟨ii,I,J,K,L⟩:=inf_37;refine qR (e:=37) (size:=6) (us:=(ops.getD i []).flatMap dC) Tryz.underlying116 I J K rfl dy (by rw[ja qC]) Li.rd (opC_int _) (by have:=d i l;omega) (by rw[L];omega) λv4 w4 o4 M c4=>?_;obtain⟨A9,n9,rfl,r9⟩:=gC ⟨_,o4⟩;have O:Lo w4 W A9 ((ops.getD i []).flatMap dC):=⟨r9,λp hp _=>Y.fresh (M p.block (by rw[hp];rfl))⟩
   exact l_na2 dy (k.gx (Gx.bV Y c4)) O a
  ·have b:¬(i:Int)<ops.length:=dy;have eo:ops.getD i []= []:=by rw[cu,df dy];rfl
   simp only[uh,ac,aU,b,decide_false,zS];have O:Lo w3 W none ((ops.getD i []).flatMap dC):=by rw[eo];exact Lo.nil _ _ _
   have:=l_na2 (x1:= .slice A ops.length kk) (n9:=0) dy k O a;rw[eo]at this;exact this
theorem l_na0(N:gM c)(d:T0=λ_=>none)(R:Rel w T0)(O:OpsL w T0 A ops vs)(l:∀i,i<ops.length->(ops.getD i []).length<=1000)(F:ops.length<=100000)(u:hp w q=some (.cells (dK c).toArray 25)):∀(f i:Nat),i+f=ops.length->
  P26_0 (.slice A ops.length kk) (ptr q) (bS i) w λv w'=>∃h ab,NaQ w T0 q A ops vs c h ab (qQ c) v w'
 |0,i,G=>by
  apply L26_0_ok;have I:¬(i:Int)<ops.length:=dy;have B:=(ad.refl [] w).drew;have x:hp w.drew q=some (.cells (dK c).toArray 25):=u;simp only[L26_0,ptr,uh,ac,aU,I,decide_false,fW x,zS];have J:=R.aw B;have K:aa prog 55 [.agg (dK c).toArray] w.drew λv w'=>(∃ h T',v=ptr h.wb/\Gx (λ_=>False) w.drew T0 w' T'/\dM T' h c (qQ c))/\ad [] w.drew w':=(c_r11New N J).mono λv w' ⟨h,T',e,g,H⟩=>⟨⟨h,T',e,g,H⟩,g.aw.chg0 λk m=>by rw[d]at m;exact absurd rfl m⟩
  refine mu K ?_;rintro v w1 ⟨h,T1,rfl,C,L⟩ W;have y:=(Gx.bV (S:=λ_=>False) R B).trans C;have p:ai prog (Instr.build 78 #[(0,.agg (dK c).toArray),(1,ptr h.wb)])=some (.agg (arV c h.wb (.slice none 0 0) (.slice none 0 0) (.slice none 0 0) (.slice none 0 0) (.slice none 0 0) (.slice none 0 0) 0).toArray):=bd_78_0_1;simp only[ptr]at p;simp only[ptr,p,ac,ak,au];have D:=Gx.new (S:=λ_=>False) (vs:=arV c h.wb (.slice none 0 0) (.slice none 0 0) (.slice none 0 0) (.slice none 0 0) (.slice none 0 0) (.slice none 0 0) 0) (cs:=rA c h.wb (l0 [] [] 0)) C.rel 0 78 rfl λk Y v a b=>by
   have m:=(ce.1 a).1;have:(rA c h.wb (l0 [] [] 0)).length=14:=rfl;match k,m with
   |0,_=>cases a;cases b;rfl
   |1,_=>cases a;cases b;rfl
   |2,_=>cases a;cases b;rfl
   |3,_=>cases a;cases b;rfl
   |4,_=>cases a;cases b;rfl
   |5,_=>cases a;cases b;rfl
   |6,_=>cases a;cases b;rfl
   |7,_=>cases a;cases b;exact uo
   |8,_=>cases a;cases b;exact uo
   |9,_=>cases a;cases b;exact uo
   |10,_=>cases a;cases b;exact uo
   |11,_=>cases a;cases b;exact uo
   |12,_=>cases a;cases b;exact uo
   |13,_=>cases a;cases b;rfl
   |k+14,m=>omega
  have o:=y.trans D;have M:T0 q=none:=by rw[d]
  have X:NaS w T0 q A ops vs c h w1.heap.size 0 0 0 [] [] (qQ c) (w1.alloc (.cells (arV c h.wb (.slice none 0 0) (.slice none 0 0) (.slice none 0 0) (.slice none 0 0) (.slice none 0 0) (.slice none 0 0) 0).toArray 78)) _:=
   ⟨o.mono λ_ _=>trivial,ax,L.no D,rfl,rfl,λk m=>dy,λk m=>dy,o.loc u M,O.gx o⟩
  refine Part.mono (l_na1 N l (cW c) 0 dy X) λv w' Q=>⟨h,w1.heap.size,Q⟩
 |f+1,i,G=>by
  apply L26_0_ok;have z:(i:Int)<ops.length:=dy;have t:i<ops.length:=dy;obtain⟨Z,ki,T,Li⟩:=O.e i t;obtain⟨bo,oo,U,E,_⟩:=O.r.rd.elem1 (P:=prog) (s:=70) (n:=ops.length) (c:=kk) (j:= .i64) (i:=(i:Int)) Tryz.underlying70 sz_116 (by rw[O.n];omega) dy dy;rw[cq,T]at E;have a:¬((ops.getD i []).length:Int)>1000:=by have:=l i t;omega
  have V:IntKind.i64.wrap ((i:Int)+1)=((i+1:Nat):Int):=by rw[ap dy dy];omega
  simp only[L26_0,uh,mD,ac,aU,iH,z,a,decide_true,decide_false,U,oe,E,aj,V,zS];exact l_na0 N d R O l F u f (i+1) dy
theorem c_NewArena(N:gM c)(d:T0=λ_=>none)(R:Rel w T0)(O:OpsL w T0 A ops vs)(f:∀i,i<ops.length->(ops.getD i []).length<=1000)(x:ops.length<=cW c):
  aa prog 26 [.agg (dK c).toArray,.slice A ops.length kk] w λv w'=>∃h ab T' dY dB,v= .tuple #[ptr ab,bS 0]/\Gx (λ_=>True) w T0 w' T'/\oM w' T' ab h c (iW c ops) dY dB:=by
 apply F26_ok;have y:=N.b1;have z:=N.n1;simp only[F26,ak,au];generalize j:World.alloc _ _=w1;have n:ad [] w w1:=by rw[<- j];exact(ad.refl _ _).alloc _
 have k:hp w1 w.heap.size=some (.cells (dK c).toArray 25):=by rw[<- j,af,bX rfl]
 clear j;generalize w.heap.size=q at*;simp only[fW k,ac];refine(c_cfMay c w1).mono ?_;rintro _ w2 ⟨rfl,l⟩;have m:=l.at k (by simp);obtain⟨o,_⟩:=cfl m;have a:=n.trans l;have p:¬(ops.length:Int)>c.1:=dy;simp only[N.may,uh,ac,eS,ag,o,iH,p,decide_false,zS];have r:=R.aw a;have s:OpsL w2 T0 A ops vs:=O.gx (S:=λ_=>False) (Gx.bV R a);refine Part.mono (l_na0 N d r s f dy m ops.length 0 dy) λv w' t=>?_;obtain⟨h,ab,e,T',dY,dB,X⟩:=t;refine⟨h,ab,T',dY,dB,e,(Gx.bV R a).trans X.g,?_⟩;have u:∀i,i<cW c->(iW c ops).ops.getD i []=ops.getD i []:=λi b=>by
  show((List.range (cW c)).map λi=>ops.getD i []).getD i []=_;rw[cu,cM,List.getElem?_range b];rfl
 refine⟨X.nd,X.hm,X.n1,X.n2,by simp[iW],by simp[iW],by simp[iW],by simp[iW],λi b=>?_,λi b=>?_⟩
 ·have:(iW c ops).ks.getD i aI=aI:=by
   show(List.replicate (cW c) aI).getD i aI=_;rw[cu,List.getElem?_replicate,bX b];rfl
  rw[this];exact X.wk i b
 ·rw[u i b];exact X.op i b
end
theorem t2_1{a b:Value}:(#[a,b]:Array Value)[0+1]? =some b:=(rfl)
theorem t2_0{a b:Value}:(#[a,b]:Array Value)[0+0]? =some a:=(rfl)
theorem val_at{w:World}{A:Option Addr}{vs:List Value}{n c i:Nat}{x:Value}{j:IntKind}(h:ed w A vs)(f:vs.length=n)(a:vs[i]? =some x):
  ∃b o,ai prog (Instr.indexAt 70 (.slice A n c) (.int j i))=some (.pointer (some ⟨b,o,none⟩))/\ao (hp w b) o=some x:=by
 have g:=(ce.1 a).1;obtain⟨b,o,e,d,_⟩:=h.elem1 (P:=prog) (c:=c) (n:=n) (i:=(i:Int)) (j:=j) Tryz.underlying70 sz_116 dy dy dy;rw[cq,a]at d;exact⟨b,o,e,d⟩
theorem op_at{w:World}{A:Option Addr}{ops:List ez}{c i:Nat}{j:IntKind}(h:ed w A (ops.flatMap dC))(d:i<ops.length):
  ∃b o,ai prog (Instr.indexAt 116 (.slice A ops.length c) (.int j i))=some (.pointer (some ⟨b,o,none⟩))/\fR prog 37 (.pointer (some ⟨b,o,none⟩)) w=some (.agg (dC ops[i]).toArray):=by
 obtain⟨b,o,e,f,a,_⟩:=h.elem (P:=prog) (c:=c) (n:=ops.length) (i:=(i:Int)) (j:=j) Tryz.underlying116 nZ dy (by rw[bN qC];exact cy _) dy dy;rw[cq,lg qC ops i d]at a;exact⟨b,o,e,by rw[ld_37,a];rfl⟩
theorem blk_add(p:Addr)(i:Nat):(p.add i).block=p.block:=by unfold Addr.add;split<;>rfl
theorem rr.aw{k:IntKind}{w w':World}{S:List Nat}{A:Option Addr}{xs:List Int}(h:rr k w A xs)(a:ad S w w')(b:∀p,A=some p->p.block∉S):rr k w' A xs:=λi c=>by
 obtain⟨p,hp,d⟩:=h i c;exact⟨p,hp,a.cell d (by rw[blk_add];exact b p hp)⟩
theorem c_SeqN{w:World}{g:Nat}{A:Option Addr}{c:Nat}{xs:List Int}{at':Nat}(hb:hp w g=some (.cells #[.slice A xs.length c,bS at'] 114))(s:rr .i64 w A xs)(t:∀p,A=some p->p.block≠g)(u:at'<=1000000000){m:Int}(k:0<m)(E:m<=1000000):
  aa prog 53 [bU g,bS m] w λv w'=>(∃ r:Nat,v=bS r/\(r:Int)<m)/\hp w' g=some (.cells #[.slice A xs.length c,bS ((at'+1:Nat):Int)] 114)/\ad [g] w w':=by
 apply F53_ok;have fin:∀(w0:World),ad [] w w0->∀x:Int,P53_0 (bU g) (bS m) (bS x) w0 λv w'=>(∃ r:Nat,v=bS r/\(r:Int)<m)/\hp w' g=some (.cells #[.slice A xs.length c,bS ((at'+1:Nat):Int)] 114)/\ad [g] w w':=by
  intro w0 e x;apply L53_0_ok;have a:=e.at hb (by simp);have ok:mX (hp w0 g) (0+1+1)=true:=by rw[a];rfl
  have y:(#[Value.slice A xs.length c,bS at'].setIfInBounds (0+1) (bS ((at':Int)+1)))= #[.slice A xs.length c,bS ((at'+1:Nat):Int)]:=by rw[db at' 1];rfl
  simp only[L53_0,zS,rO,ag,a,t2_1,aj,ap (n:=(at':Int)+1) dy dy,hC (w:=w0) (b:=g) (o:=0+1) (v:=bS ((at':Int)+1)) rfl rfl ok,ay,ar,y];refine(mS x m _ k dy).step ?_;have f:ad [g] w0 (put w0 g #[.slice A xs.length c,bS ((at'+1:Nat):Int)] 114):=(ad.refl _ _).put (.inl (by simp)) _ _;have z:=Int.emod_nonneg x (b:=m) dy;have B:=Int.emod_lt_of_pos x k;refine⟨⟨(x%m).toNat,by rw[du z],dy⟩,aq (az a) _ _,(e.mono (by simp)).trans f⟩
 have l:ad [] w w.drew:=(ad.refl _ _).drew;by_cases d:(at':Int)<xs.length
 ·obtain⟨q,C,D⟩:=(s.drew.drew).at (P:=prog) (c:=c) (j:= .i64) underlying22 Tryz.underlying3 aE (i:=(at':Int)) dy d;simp only[F53,zS,fa_114_0,rO,ag,aH,hb,t2_0,t2_1,aK,d,C,D];exact fin _ l.drew _
 ·simp only[F53,zS,fa_114_0,rO,ag,aH,hb,t2_0,t2_1,aK,d];exact fin _ l _
def kQ:List Int:= [1,1,2,2,2,3,3,5,5,5,6,7,7,8,9,6,4,10,10,11,11,12,0]
theorem c_kinds(w:World):aa prog 97 [] w λv w'=>v= .slice (some ⟨w.heap.size,0,none⟩) 23 23/\hp w' w.heap.size=some (.cells (ints kQ).toArray 3)/\ad [] w w':=by
 apply F97_ok;simp only[F97,bs_22_23];exact⟨trivial,by rw[af,bX rfl];rfl,(ad.refl _ _).alloc _⟩
theorem kinds_at:∀r:Nat,r<23->kQ.getD r 0=0\/kQ.getD r 0=1\/kQ.getD r 0=2\/kQ.getD r 0=3\/kQ.getD r 0=4\/kQ.getD r 0=5\/kQ.getD r 0=6\/kQ.getD r 0=7\/kQ.getD r 0=8\/kQ.getD r 0=9\/kQ.getD r 0=10\/kQ.getD r 0=11\/kQ.getD r 0=12:=dz
theorem lit_at{w:World}{g n:Nat}{xs:List Int}(h:hp w g=some (.cells (ints xs).toArray 3))(a:n=xs.length){r:Nat}(d:r<n):
  ai prog (Instr.indexAt 22 (.slice (some ⟨g,0,none⟩) n n) (bS r))=some (.pointer (some ⟨g,0+r*1,none⟩))/\ao (hp w g) (0+r*1)=some (bS (xs.getD r 0)):=by
 subst a;have:=ia_22 (b:=g) (p:=0) (c:=xs.length) (j:= .i64) (i:=(r:Int)) (n:=xs.length) dy dy;rw[cq]at this;exact⟨this,ints_ld h d⟩
def IsL(w:World)(g:Nat)(v:Value)(L:List (List ez)):Prop:=
 ∃A c vs,v= .slice A L.length c/\ed w A vs/\vs.length=L.length/\(∀ (j:Nat) (x:Value) (ops:List ez),vs[j]? =some x->L[j]? =some ops->∃A' a,x= .slice A' ops.length a/\ed w A' (ops.flatMap dC)/\∀p,A'=some p->p.block≠g)/\∀p,A=some p->p.block≠g
theorem IsL.an{w w':World}{g:Nat}{v:Value}{L:List (List ez)}(h:IsL w g v L)(a:ad [g] w w'):IsL w' g v L:=by
 obtain⟨A,c,vs,rfl,f,i,k,b⟩:=h;refine⟨A,c,vs,rfl,f.aw a λp hp _=>by simpa using b p hp,i,λj x ops l m=>?_,b⟩;obtain⟨A',n,e,o,d⟩:=k j x ops l m;exact⟨A',n,e,o.aw a λp hp _=>by simpa using d p hp,d⟩
theorem IsL.list{w:World}{g:Nat}{A:Option Addr}{c:Nat}{L:List (List ez)}{vs:List Value}(l:vs.length=L.length)(d:∀(j:Nat) (x:Value) (ops:List ez),vs[j]? =some x->L[j]? =some ops->∃A' a,x= .slice A' ops.length a/\ed w A' (ops.flatMap dC)/\∀p,A'=some p->p.block≠g){i:Nat}(f:i<L.length):
  ∃A' a,vs[i]? =some (.slice A' (L[i]).length a)/\ed w A' ((L[i]).flatMap dC):=by
 obtain⟨x,b⟩:∃x,vs[i]? =some x:=⟨_,bZ dy⟩
 obtain⟨A',a,e,k,_⟩:=d i x L[i] b (bZ f);exact⟨A',a,by rw[b,e],k⟩
def NameO(o:ez):Prop:=0<=o.2.1/\o.2.1<=63/\0<=o.2.2.1/\o.2.2.1<=999
def uB:List (List ez)->Nat
 | []=>0
 |l::L=>l.length+uB L
theorem tU{L:List (List ez)}{i:Nat}(h:i<L.length):uB (L.take (i+1))=uB (L.take i)+(L[i]).length:=by
 induction L generalizing i with
 |nil=>simp at h
 |cons x xs a=>
  cases i with
  |zero=>simp[uB]
  |succ i=>
   have:=a (i:=i) (by simpa using h);simp[uB,this];omega
theorem tot_take_le(L:List (List ez))(i:Nat):uB (L.take i)<=uB L:=by
 induction L generalizing i with
 |nil=>simp[uB]
 |cons x xs a=>
  cases i with
  |zero=>simp[uB]
  |succ i=>have:=a i;simp[uB];omega
structure AtI(W w:World)(x:Value)(R:List ez):Prop where
 own:w.ownsRow W.heap.size 37 6 x R.length (R.flatMap dC)
 ok:∀o∈R,NameO o
 ch:ad [] W w
theorem l_at1{W:World}{A:Option Addr}{c:Nat}{vs:List Value}{L:List (List ez)}(Z:L.length<=64)(r:∀l∈L,l.length<=1000)(hT:uB L<=100000)(C:ed W A vs)(D:vs.length=L.length){i:Nat}(s:i<L.length){A':Option Addr}{E:Nat}(F:vs[i]? =some (.slice A' (L[i]).length E))(t:ed W A' ((L[i]).flatMap dC)){e:Int}{Q:Value->World->Prop}
  (next:∀w x R,AtI W w x R->R.length<=uB (L.take (i+1))->P98_0 (.slice A L.length c) (bS e) x (bS ((i:Int)+1)) w Q):
  ∀(d j:Nat) (w:World) (x:Value) (R:List ez),AtI W w x R->R.length<=uB (L.take i)+j->j+d=(L[i]).length->
   P98_1 (.slice A L.length c) (bS e) x (bS i) (bS j) w Q:=by
 have f:L[i]∈L:=List.getElem_mem s;have hl:=r _ f;have H:=tot_take_le L (i+1);rw[tU s]at H;intro d;induction d with
 |zero=>
  intro j w x R h I J;apply L98_1_ok;obtain⟨b,o,g,m⟩:=val_at (c:=c) (j:= .i64) (C.an h.ch.below) D F;have:¬(j:Int)<(L[i]).length:=dy;simp only[L98_1,zS,g,oe,m,mD,this,aj,ap (n:=(i:Int)+1) dy dy];exact next w x R h (by rw[tU s];omega)
 |succ d K=>
  intro j w x R h I J;apply L98_1_ok;obtain⟨b,o,g,m⟩:=val_at (c:=c) (j:= .i64) (C.an h.ch.below) D F;have a:(j:Int)<(L[i]).length:=dy;have v:j<(L[i]).length:=dy;obtain⟨M,O,G,S,r3,_⟩:=(t.an h.ch.below).elem (P:=prog) (c:=E) (n:=(L[i]).length) (i:=(j:Int)) (j:= .i64) Tryz.underlying116 nZ dy (by rw[bN qC];exact cy _) dy a;have r0:=S 0 dy;rw[cq,flat_get qC (L[i]) j v 0 dy]at r0;have r0:ao (hp w M) (O+0)=some (bS (L[i])[j].1):=r0;have two:∀w' x' p,AtI W w' x' p->p.length<=R.length+1->P98_2 (.slice A L.length c) (bS e) x' (bS i) (bS j) w' Q:=λw' x' p T U=>by
   apply L98_2_ok;simp only[L98_2,zS,aj,ap (n:=(j:Int)+1) dy dy];have:=K (j+1) w' x' p T dy dy;rw[db j 1]at this;exact this
  by_cases q:(L[i])[j].1=e
  ·have y:((L[i])[j].1==e)=true:=by rw[q];simp
   have z:ai prog (Instr.build 37 #[(1,bS i),(2,bS j)])=some (.agg (dC (0,(i:Int),(j:Int),0,0,0)).toArray):=bd_37_1_2;simp only[L98_1,zS,g,oe,m,mD,a,G,am,ag,r0,y,z];refine ps_116 (λu V=>List.all_eq_true.1 (show(dC (0,(i:Int),(j:Int),0,0,0)).all (·.oneCell')=true from rfl) u V) h.own dy h.ch.size λx' w' B X Y=>?_;refine two w' x' (R++ [(0,(i:Int),(j:Int),0,0,0)]) ⟨by rw[cJ,flat_snoc];exact B,λo B=>?_,h.ch.grown X λk q=> .inr (h.own.lt k q).1⟩ (by simp);rcases List.mem_append.1 B with h1|h1
   ·exact h.ok o h1
   ·simp at h1;subst h1;exact⟨by simp only;omega,by simp only;omega,by simp only;omega,by simp only;omega⟩
  ·simp only[L98_1,zS,g,oe,m,mD,a,G,am,ag,r0,bn q];exact two w x R h dy
theorem c_at{w:World}{g:Nat}{v:Value}{L:List (List ez)}(h:IsL w g v L)(q:L.length<=64)(e:∀l∈L,l.length<=1000)(hT:uB L<=100000)(n:Int):
  aa prog 98 [v,bS n] w λr w'=>∃R,AtI w w' r R/\R.length<=100000:=by
 obtain⟨A,c,vs,rfl,s,p,t,G⟩:=h;apply F98_ok;simp only[F98];have a:∀(d i:Nat) (w1:World) (x:Value) (R:List ez),AtI w w1 x R->R.length<=uB (L.take i)->i+d=L.length->
   P98_0 (.slice A L.length c) (bS n) x (bS i) w1 λr w'=>∃R,AtI w w' r R/\R.length<=100000:=by
  intro d;induction d with
  |zero=>
   intro i w1 x R f u y;apply L98_0_ok;have:¬(i:Int)<L.length:=dy;simp only[L98_0,zS,uh,this];exact⟨R,f,by have:=tot_take_le L i;omega⟩
  |succ d z=>
   intro i w1 x R f u y;apply L98_0_ok;have j:(i:Int)<L.length:=dy;have b:i<L.length:=dy;obtain⟨A',H,B,C⟩:=IsL.list (A:=A) (c:=c) p t b;simp only[L98_0,zS,uh,j];refine l_at1 (c:=c) q e hT s p b B C (λw2 D E k m=>?_) (L[i]).length 0 w1 x R f dy dy;have:=z (i+1) w2 D E k m dy;rw[db i 1]at this;exact this
 exact a L.length 0 w _ [] ⟨World.ownsRow_nil _ _ _ _,λo F=>by simp at F,ad.refl _ _⟩ (by simp) dy
def oZero:ez:=(0,0,0,0,0,0)
def WfO'(o:ez):Prop:=(0<=o.2.2.2.2.1/\o.2.2.2.2.1<18446744073709551616)/\(0<=o.2.2.2.2.2/\o.2.2.2.2.2<18446744073709551616)
def GenO(o:ez):Prop:=(o=oZero\/jz o=true)/\WfO' o
theorem mayO_of{k f a n v w:Int}(b:1<=k)(c:k<=12)(d:0<=f/\f<=frM k)(e:0<=a/\a<=atM k)(g:0<=n/\n<=nM k)(hv:vB k=true\/v=0)(i:wB k=true\/w=0):jz (k,f,a,n,v,w)=true:=
 cj ⟨⟨b,c⟩,d,e,g,hv,i⟩
def Half(o:ez):Prop:=(1<=o.1/\o.1<=12)/\frM o.1=63/\atM o.1=999/\(0<=o.2.2.2.1/\o.2.2.2.1<=nM o.1)/\(vB o.1=true\/o.2.2.2.2.1=0)/\(wB o.1=true\/o.2.2.2.2.2=0)/\WfO' o
structure Env(W:World)(q:Nat)(A:Option Addr)(xs:List Int)(x1:Value)(L:List (List ez)):Prop where
 hA:rr .i64 W A xs
 hne:∀p,A=some p->p.block≠q
 il:IsL W q x1 L
 qW:q<W.heap.size
 hL:L.length<=64
 hll:∀l∈L,l.length<=1000
 hT:uB L<=100000
structure Gen(W w:World)(q g4 g6:Nat)(A:Option Addr)(c:Nat)(xs:List Int)(a0 at':Nat)(o:ez):Prop where
 sq:hp w q=some (.cells #[.slice A xs.length c,bS at'] 114)
 h4:hp w g4=some (.cells (dC oZero).toArray 37)
 h6:hp w g6=some (.cells (dC o).toArray 37)
 ne:g4≠g6
 g4W:W.heap.size<=g4
 g6W:W.heap.size<=g6
 ch:ad [q] W w
 at1:a0<=at'
 at2:at'<=900000000
def GenP(W:World)(q:Nat)(A:Option Addr)(c:Nat)(xs:List Int)(a0 m:Nat)(v:Value)(w':World):Prop:=∃o at',v= .agg (dC o).toArray/\GenO o/\hp w' q=some (.cells #[.slice A xs.length c,bS ((at':Nat):Int)] 114)/\a0<=at'/\at'<=a0+m/\ad [q] W w'
section
variable{W w:World}{q g4 g6:Nat}{A:Option Addr}{c:Nat}{xs:List Int}{a0 at':Nat}{o:ez}{x1:Value}{L:List (List ez)}
theorem Gen.next(E:Env W q A xs x1 L)(h:Gen W w q g4 g6 A c xs a0 at' o)(b:at'+1<=900000000){m:Int}(d:0<m)(e:m<=1000000){K:Value->World->Prop}(f:∀(r:Nat) w',(r:Int)<m->Gen W w' q g4 g6 A c xs a0 (at'+1) o->ad [q] w w'->K (bS r) w'):
  aa prog 53 [bU q,bS m] w K:=by
 refine(c_SeqN h.sq (rr.aw E.hA h.ch λp hp=>by simpa using E.hne p hp) E.hne (by have:=h.at2;omega) d e).mono ?_;rintro v w' ⟨⟨r,rfl,g⟩,i,a⟩;have j:g4≠q:=by have:=h.g4W;have:=E.qW;omega
 have k:g6≠q:=by have:=h.g6W;have:=E.qW;omega
 exact f r w' g ⟨i,a.at h.h4 (by simpa using j),a.at h.h6 (by simpa using k),h.ne,h.g4W,h.g6W,h.ch.trans a,by have:=h.at1;omega,b⟩ a
theorem Gen.grow(h:Gen W w q g4 g6 A c xs a0 at' o){w':World}(a:ad [] w w'):Gen W w' q g4 g6 A c xs a0 at' o:=
 ⟨a.at h.sq (by simp),a.at h.h4 (by simp),a.at h.h6 (by simp),h.ne,h.g4W,h.g6W,h.ch.trans (a.mono (by simp)),h.at1,h.at2⟩
theorem Gen.set(E:Env W q A xs x1 L)(h:Gen W w q g4 g6 A c xs a0 at' o)(o':ez):Gen W (put w g6 (dC o').toArray 37) q g4 g6 A c xs a0 at' o':=
 ⟨by rw[aV (by have:=h.g6W;have:=E.qW;omega)];exact h.sq,by rw[aV h.ne];exact h.h4,aq (az h.h6) _ _,h.ne,h.g4W,h.g6W,h.ch.put (.inr h.g6W) _ _,h.at1,h.at2⟩
theorem Gen.ans(E:Env W q A xs x1 L)(h:Gen W w q g4 g6 A c xs a0 at' o)(d:GenO o){m:Nat}(e:at'<=a0+m):nP (fR prog 37 (bU g6) w) λa=>
  dE prog (Instr.storeAt 37 (bU g4) a) w λw=>
  nP (fR prog 37 (bU g4) w) λf=>GenP W q A c xs a0 m f w:=by
 have b:=aR tJ (show(Tryz.prog.info? 37).map (·.size)=some (dC o).toArray.size from nZ) h.h6;rw[b,ac,st_37 (by rfl) (by rfl) (by rw[h.h4];rfl) (by rw[h.h4];rfl),h.h4,ar];have g:hp (put w g4 (dC o).toArray 37) g4=some (.cells (dC o).toArray 37):=aq (az h.h4) _ _;rw[aR tJ (show(Tryz.prog.info? 37).map (·.size)=some (dC o).toArray.size from nZ) g,ac];exact⟨o,at',rfl,d,by rw[aV (by have:=h.g4W;have:=E.qW;omega)];exact h.sq,h.at1,e,h.ch.put (.inr h.g4W) _ _⟩
theorem Gen.five(E:Env W q A xs x1 L)(h:Gen W w q g4 g6 A c xs a0 at' o)(a:GenO o){m:Nat}(b:at'<=a0+m):P57_5 (bU g4) (bU g6) w (GenP W q A c xs a0 m):=by
 apply L57_5_ok;exact h.ans E a b
theorem Gen.st(h:Gen W w q g4 g6 A c xs a0 at' o){i:Nat}(a:i<3)(x:Int){K:World->Prop}:
  dE prog (Instr.storeAt 3 (.pointer (some ⟨g6,0+(i+1),none⟩)) (bS x)) w K=K (put w g6 ((dC o).toArray.setIfInBounds (0+(i+1)) (bS x)) 37):=by
 rw[hC (w:=w) (b:=g6) (o:=0+(i+1)) (v:=bS x) rfl rfl (by rw[h.h6];rcases i with _|_|_|i<;>first|rfl|omega),h.h6,ar,ay]
theorem Gen.stu(h:Gen W w q g4 g6 A c xs a0 at' o){i:Nat}(a:i<2)(x:Int){K:World->Prop}:
  dE prog (Instr.storeAt 33 (.pointer (some ⟨g6,0+(i+4),none⟩)) (bT x)) w K=K (put w g6 ((dC o).toArray.setIfInBounds (0+(i+4)) (bT x)) 37):=by
 rw[og (w:=w) (b:=g6) (o:=0+(i+4)) (v:=bT x) rfl rfl (by rw[h.h6];rcases i with _|_|i<;>first|rfl|omega),h.h6,ar,ay]
theorem set_1(k f a n v u x:Int):((dC (k,f,a,n,v,u)).toArray.setIfInBounds (0+1) (bS x))=(dC (k,x,a,n,v,u)).toArray:=rfl
theorem set_2(k f a n v u x:Int):((dC (k,f,a,n,v,u)).toArray.setIfInBounds (0+2) (bS x))=(dC (k,f,x,n,v,u)).toArray:=rfl
theorem set_3(k f a n v u x:Int):((dC (k,f,a,n,v,u)).toArray.setIfInBounds (0+3) (bS x))=(dC (k,f,a,x,v,u)).toArray:=rfl
theorem set_4(k f a n v u x:Int):((dC (k,f,a,n,v,u)).toArray.setIfInBounds (0+4) (bT x))=(dC (k,f,a,n,x,u)).toArray:=rfl
theorem set_5(k f a n v u x:Int):((dC (k,f,a,n,v,u)).toArray.setIfInBounds (0+5) (bT x))=(dC (k,f,a,n,v,x)).toArray:=rfl
theorem half_done{k f a n v u:Int}(h:Half (k,f,a,n,v,u)){f' a':Int}(l:0<=f'/\f'<=63)(m:0<=a'/\a'<=999):GenO (k,f',a',n,v,u):=by
 obtain⟨b,c,d,e,g,i,j⟩:=h;simp only at b c d e g i j;exact⟨.inr (mayO_of b.1 b.2 (by rw[c];exact l) (by rw[d];exact m) e g i),j⟩
theorem Gen.four(E:Env W q A xs x1 L)(h:Gen W w q g4 g6 A c xs a0 at' o)(ho:Half o)(a3:at'+4<=900000000){m:Nat}(hm:at'+4<=a0+m)(want:Int):P57_4 (bU q) x1 (bU g4) (bU g6) (bS want) w (GenP W q A c xs a0 m):=by
 apply L57_4_ok;simp only[L57_4];refine(c_at (E.il.an h.ch) E.hL E.hll E.hT want).mono ?_;rintro r w1 ⟨R,y,a4⟩;obtain⟨B,cB,rfl,hB⟩:=aG y.own;have h1:=h.grow y.ch;obtain⟨k,f,a,n,v,u⟩:=o;have g:∀w2 l,Gen W w2 q g4 g6 A c xs a0 l (k,f,a,n,v,u)->l<=at'+2->aa prog 53 [bU q,bS 5] w2 λP w=>
   aa prog 53 [bU q,bS 9] w λQ w=>
   dE prog (Instr.storeAt 3 (.pointer (some ⟨g6,0+1,none⟩)) P) w λw=>
   dE prog (Instr.storeAt 3 (.pointer (some ⟨g6,0+2,none⟩)) Q) w λw=>
   nP (fR prog 37 (bU g6) w) λS=>
   dE prog (Instr.storeAt 37 (bU g4) S) w λw=>
   nP (fR prog 37 (bU g4) w) λT=>GenP W q A c xs a0 m T w:=by
  intro w2 l K a2;refine K.next E dy dz dz λx d U z _=>?_
  refine z.next E dy dz dz λT w4 a5 h4 _=>?_
  rw[h4.st (i:=0) dy,set_1];have M:=h4.set E (k,x,a,n,v,u);rw[M.st (i:=1) dy,set_2];exact(M.set E (k,x,T,n,v,u)).ans E (half_done ho dy dy) dy
 by_cases hz:R.length=0
 ·have s:((R.length:Int)==0)=true:=by rw[hz];rfl
  simp only[zS,mD,s,iL,iM];exact g w1 _ h1 dy
 have s:((R.length:Int)==0)=false:=by simp;simpa using hz
 simp only[zS,mD,s];refine h1.next E dy dz dz λr2 w2 a6 K c2=>?_
 simp only[zS,iL,iM];by_cases C:(r2:Int)=0
 ·have e:((r2:Int)==0)=true:=by rw[C];rfl
  simp only[zS,e];exact g w2 _ K dy
 simp only[zS,bn C];refine K.next E dy dy dy λx d U z c3=>?_
 have V:ad [q] w1 d:=c2.trans c3;have hq:q<w1.heap.size:=cY E.qW (by have:=h.ch.size;have:=y.ch.size;omega);have X:ed d B (R.flatMap dC):=hB.1.aw V λp hp _=>by
  have:=(y.own.lt p.block (by rw[hp];rfl)).1;have:=E.qW;have:=h.ch.size;simp;omega
 have D:x<R.length:=dy;obtain⟨b,o',q1,q2⟩:=op_at (c:=cB) (j:= .i64) (i:=x) X D;have O:=y.ok _ (List.getElem_mem D);generalize R[x]=e at*;simp only[zS,q1,q2,al_37];rw[st_37 (by rfl) (by rfl) (by rw[af,bX rfl];rfl) (by rw[af,bX rfl];rfl),af,bX rfl];simp only[ar];generalize t:d.alloc _=F;have G:ad [] d F:=by rw[<- t];exact(ad.refl _ _).alloc _
 have Y:F.heap.size=d.heap.size+1:=by rw[<- t];simp
 have H:ad [] d (put F d.heap.size (dC e).toArray 37):=G.put (.inr (cy _)) _ _;have h8:hp (put F d.heap.size (dC e).toArray 37) d.heap.size=some (.cells (dC e).toArray 37):=by rw[bf,bX rfl,bX dy]
 have M:=z.grow H;have n6:d.heap.size≠g6:=by have:=az z.h6;omega
 clear t G Y H z q1 q2;generalize put F d.heap.size (dC e).toArray 37=Z at*;generalize d.heap.size=g8 at*;have I:hp Z.drew g8=some (.cells (dC e).toArray 37):=h8;have J:Gen W Z.drew q g4 g6 A c xs a0 (at'+1+1) (k,f,a,n,v,u):=M.grow (ad.refl _ _).drew;have h6:=J.set E (k,e.2.1,a,n,v,u);have a1:hp (put Z.drew g6 (dC (k,e.2.1,a,n,v,u)).toArray 37) g8=some (.cells (dC e).toArray 37):=by rw[aV n6];exact I
 have h7:=h6.set E (k,e.2.1,e.2.2.1,n,v,u);have fin:=h7.five E (half_done ho (f':=e.2.1) (a':=e.2.2.1) ⟨O.1,O.2.1⟩ ⟨O.2.2.1,O.2.2.2⟩) (m:=m) dy;simp only[iL,iM,ag,I,op_1,op_2,zS,J.st (i:=0) dy,set_1,h6.st (i:=1) dy,set_2,a1];exact⟨fin,fin⟩
end
section
variable{W w:World}{q g4 g6:Nat}{A:Option Addr}{c:Nat}{xs:List Int}{a0 at':Nat}{o:ez}{x1:Value}{L:List (List ez)}
theorem Gen.three(E:Env W q A xs x1 L)(h:Gen W w q g4 g6 A c xs a0 at' o)(d:Half o)(g:at'+5<=900000000){m:Nat}(y:at'+5<=a0+m)(want:Int):P57_3 (bU q) x1 (bU g4) (bU g6) (bS want) w (GenP W q A c xs a0 m):=by
 apply L57_3_ok;by_cases b:o.1=9
 ·simp only[L57_3,zS,am,mB,ag,h.h6,aJ,b];refine h.next E dy dz dz λr w1 z e B=>?_
  obtain⟨k,f,a,n,v,u⟩:=o;simp only[zS,lG,oR (n:=(r:Int)) dy dy];rw[e.stu (i:=1) dy,set_5];obtain⟨j,l,p,s,t,C,x⟩:=d;simp only at b;exact(e.set E (k,f,a,n,v,r)).four E ⟨j,l,p,s,t,.inl (by simp[wB,b]),x.1,by simp only;omega⟩ dy dy want
 ·simp only[L57_3,zS,am,ag,h.h6,aJ,bn b];exact h.four E d dy dy want
theorem Gen.one(E:Env W q A xs x1 L)(h:Gen W w q g4 g6 A c xs a0 at' o)(p:Half o)(t:at'+6<=900000000){m:Nat}(F:at'+6<=a0+m)(want:Int):P57_1 (bU q) x1 (bU g4) (bU g6) (bS want) w (GenP W q A c xs a0 m):=by
 apply L57_1_ok;have b:vB o.1=true->aa prog 53 [bU q,bS 3] w λd w=>
   nP (ai prog (convert 3 33 d)) λe=>
   dE prog (Instr.storeAt 33 (.pointer (some ⟨g6,0+4,none⟩)) e) w λw=>
   P57_3 (bU q) x1 (bU g4) (bU g6) (bS want) w (GenP W q A c xs a0 m):=by
  intro kv;refine h.next E dy dz dz λr w1 G s H=>?_
  obtain⟨k,f,a,n,v,u⟩:=o;simp only[zS,lG,oR (n:=(r:Int)) dy dy];rw[s.stu (i:=0) dy,set_4];obtain⟨x,y,z,B,I,C,D⟩:=p;exact(s.set E (k,f,a,n,r,u)).three E ⟨x,y,z,B,.inl kv,C,by simp only;omega,D.2⟩ dy dy want
 by_cases g:o.1=7
 ·simp only[L57_1,zS,am,fB,ag,h.h6,aJ,g];exact b (by rw[g];rfl)
 by_cases j:o.1=8
 ·simp only[L57_1,zS,am,fB,ag,h.h6,aJ,j,Int.reduceBEq];exact b (by rw[j];rfl)
 by_cases l:o.1=9
 ·simp only[L57_1,zS,am,fB,ag,h.h6,aJ,l,Int.reduceBEq];exact b (by rw[l];rfl)
 simp only[L57_1,zS,am,fB,ag,h.h6,aJ,bn g,bn j,bn l];exact h.three E p dy dy want
def list9:List Int:= [1,2,3,5,8,9,16,17,0]
theorem list9_at:∀r:Nat,r<9->0<=list9.getD r 0/\list9.getD r 0<=17:=dz
theorem wfo0(k n:Int):WfO' (k,0,0,n,0,0):=⟨⟨dj 0,by show(0:Int)<_;omega⟩,dj 0,by show(0:Int)<_;omega⟩
theorem mayO0{k:Int}(a:1<=k)(b:k<=12){n:Int}(c:0<=n)(d:n<=nM k):GenO (k,0,0,n,0,0):=
 ⟨.inr (mayO_of a b ⟨dy,by rw[frM];split<;>omega⟩ ⟨dy,by rw[atM];split<;>omega⟩ ⟨c,d⟩ (.inr rfl) (.inr rfl)),wfo0 k n⟩
theorem genO0{k:Int}(a:k=0\/1<=k/\k<=12):GenO (k,0,0,0,0,0):=by
 rcases a with rfl|⟨b,c⟩
 ·exact⟨.inl rfl,wfo0 0 0⟩
 ·exact mayO0 b c dy (by rw[nM];repeat' (split;first|omega|skip);all_goals omega)
theorem half0{k n:Int}(d:k=2\/k=5\/k=10\/k=12\/6<=k/\k<=9)(b:0<=n)(c:n<=nM k):Half (k,0,0,n,0,0):=by
 have a:gH k≠0:=by
  rw[gH];split
  ·omega
  ·split
   ·omega
   ·split<;>omega
 exact⟨⟨by simp only;omega,by simp only;omega⟩,by simp[frM,a],by simp[atM,a],⟨b,c⟩,.inr rfl,.inr rfl,wfo0 k n⟩
theorem nM_b{k:Int}(h:nB k=true)(a:k≠1):nM k=65535:=by simp[nM,a,h]
theorem Gen.zero(E:Env W q A xs x1 L){k:Int}(B:k=0\/1<=k/\k<=12)(C:k≠1)(h:Gen W w q g4 g6 A c xs a0 at' (k,0,0,0,0,0))(D:at'+7<=900000000){m:Nat}(F:at'+7<=a0+m){b:Bool}(hb:b=decide (6<=k/\k<=9)):P57_0 (bU q) x1 (bU g4) (bU g6) (bS 1) (bS k) (.bool b) w (GenP W q A c xs a0 m):=by
 apply L57_0_ok;by_cases f:6<=k/\k<=9
 ·have d:b=true:=by rw[hb];simp[f]
  subst d;simp only[L57_0,zS];refine h.next E dy dz dz λr w1 x y p=>?_
  simp only[zS,bm];rw[y.st (i:=2) dy,set_3];have G:nM k=65535:=nM_b (by simp[nB];omega) dy;exact(y.set E (k,0,0,r,0,0)).one E (half0 dy dy dy) dy dy 2
 have d:b=false:=by rw[hb];simp[f]
 subst d;by_cases k2:k=2
 ·subst k2;simp only[L57_0,zS,bs_22_9];generalize g:w.alloc _=w1;have p:ad [] w w1:=by rw[<- g];exact(ad.refl _ _).alloc _
  have t:hp w1 w.heap.size=some (.cells (ints list9).toArray 3):=by rw[<- g,af,bX rfl];rfl
  refine(h.grow p).next E dy dz dz λr w2 x s u=>?_
  have v:w.heap.size≠q:=by have:=E.qW;have:=h.ch.size;omega
  have e:=u.at t (by simpa using v);have a:r<9:=dy;have j:=lit_at e (n:=9) rfl a;have lb:=list9_at r a;simp only[zS,j.1,ag,j.2,bm];rw[s.st (i:=2) dy,set_3];exact(s.set E (2,0,0,list9.getD r 0,0,0)).one E (half0 dy dy (by rw[nM_b (by rfl) dz];omega)) dy dy 1
 by_cases z:k=5
 ·subst z;simp only[L57_0,zS,bs_22_2,Int.reduceBEq];generalize g:w.alloc _=w1;have p:ad [] w w1:=by rw[<- g];exact(ad.refl _ _).alloc _
  have t:hp w1 w.heap.size=some (.cells (ints [1,2]).toArray 3):=by rw[<- g,af,bX rfl];rfl
  refine(h.grow p).next E dy dz dz λr w2 x s u=>?_
  have v:w.heap.size≠q:=by have:=E.qW;have:=h.ch.size;omega
  have e:=u.at t (by simpa using v);have a:r<2:=dy;have j:=lit_at e (n:=2) rfl a;simp only[zS,j.1,ag,j.2];exact s.one E (half0 dy dy (by rw[nM];repeat' (split;first|omega|skip);all_goals omega)) dy dy _
 have two:∀b:Bool,(b=true->k=10\/k=12)->P57_2 (bU q) x1 (bU g4) (bU g6) (.bool b) w (GenP W q A c xs a0 m):=by
  intro b hb;apply L57_2_ok;cases b with
  |true=>
   simp only[L57_2,zS];exact h.one E (half0 (by have:=hb rfl;omega) dy (by rw[nM];repeat' (split;first|omega|skip);all_goals omega)) dy dy 1
  |false=>
   simp only[L57_2,aQ];exact h.ans E (genO0 B) dy
 by_cases l:k=10
 ·subst l;simp only[L57_0,zS];exact two true λ_=> .inl rfl
 by_cases o:k=12
 ·subst o;simp only[L57_0,zS];exact two true λ_=> .inr rfl
 simp only[L57_0,zS,bn k2,bn z,bn l,bn o];exact two false λh=>by cases h
end
theorem opC0(k:Int):(#[Value.int .i64 k,bS 0,bS 0,bS 0,bT 0,bT 0]:Array Value)=(dC (k,0,0,0,0,0)).toArray:=rfl
theorem c_genOp{W:World}{q:Nat}{A:Option Addr}{c:Nat}{xs:List Int}{a0:Nat}{x1:Value}{L:List (List ez)}(E:Env W q A xs x1 L)(O:hp W q=some (.cells #[.slice A xs.length c,bS (a0:Int)] 114))(S:a0<=800000000):
  aa prog 57 [bU q,x1] W (GenP W q A c xs a0 12):=by
 apply F57_ok;simp only[F57,al_37];generalize s:W.alloc _=w1;have t:ad [] W w1:=by rw[<- s];exact(ad.refl _ _).alloc _
 have T:w1.heap.size=W.heap.size+1:=by rw[<- s];simp
 have P:hp w1 W.heap.size=some (.cells (dC oZero).toArray 37):=by rw[<- s,af,bX rfl];rfl
 clear s;refine(c_kinds w1).mono ?_;rintro _ w2 ⟨rfl,v,e⟩;simp only[zS,aK];have C:Env w2 q A xs x1 L:=⟨E.hA.an (t.trans e).below,E.hne,E.il.an ((t.trans e).mono (by simp)),by have:=E.qW;have:=e.size;omega,E.hL,E.hll,E.hT⟩
 refine(c_SeqN ((t.trans e).at O (by simp)) C.hA C.hne dy (m:=23) dz dz).mono ?_;rintro _ b ⟨⟨r,rfl,U⟩,w,u⟩;have Q:w1.heap.size≠q:=by have:=E.qW;omega
 have x:W.heap.size≠q:=by have:=E.qW;omega
 have l:r<23:=dy;have D:=lit_at (u.at v (by simpa using Q)) (n:=23) rfl l;have lb:=kinds_at r l;have y:=u.at (e.at P (by simp)) (by simpa using x);have V:W.heap.size+1<=b.heap.size:=by have:=e.size;have:=u.size;omega
 have z:ad [q] W b:=((t.trans e).mono (by simp)).trans u;generalize kQ.getD r 0=k at*;simp only[zS,D.1,ag,D.2,bd_37_0];rw[st_37 (by rfl) (by rfl) (by rw[af,bX rfl];rfl) (by rw[af,bX rfl];rfl),af,bX rfl,opC0 k];simp only[ar];generalize f:b.alloc _=j;have o:ad [] b j:=by rw[<- f];exact(ad.refl _ _).alloc _
 have B:j.heap.size=b.heap.size+1:=by rw[<- f];simp
 have d:ad [] b (put j b.heap.size (dC (k,0,0,0,0,0)).toArray 37):=o.put (.inr (cy _)) _ _;have g:hp (put j b.heap.size (dC (k,0,0,0,0,0)).toArray 37) b.heap.size=some (.cells (dC (k,0,0,0,0,0)).toArray 37):=by rw[bf,bX rfl,bX dy]
 have G:Gen W (put j b.heap.size (dC (k,0,0,0,0,0)).toArray 37) q W.heap.size b.heap.size A c xs a0 (a0+1) (k,0,0,0,0,0):=
  ⟨d.at w (by simp),d.at y (by simp),g,dy,cy _,dy,z.trans (d.mono (by simp)),dy,dy⟩
 clear f o B d;generalize put j b.heap.size (dC (k,0,0,0,0,0)).toArray 37=X at*;have p:k=0\/1<=k/\k<=12:=dy;have a:(dC (k,0,0,0,0,0)).toArray[0+0]? =some (bS k):=rfl;by_cases k1:k=1
 ·subst k1;simp only[zS,am,ag,g,a,Int.reduceBEq];refine G.next E (m:=4) dy dz dz λF Y R H Z=>?_
  simp only[zS,bm];rw[H.st (i:=2) dy,set_3];exact(H.set E (1,0,0,F,0,0)).ans E (mayO0 dz dz dy (by show(F:Int)<=nM 1;rw[nM,bX rfl];omega)) dy
 by_cases I:k=6
 ·subst I;simp only[zS,am,ag,g,a,Int.reduceBEq];exact G.zero (m:=12) (at':=a0+1) E p k1 dy dy rfl
 by_cases J:k=7
 ·subst J;simp only[zS,am,ag,g,a,Int.reduceBEq];exact G.zero (m:=12) (at':=a0+1) E p k1 dy dy rfl
 by_cases K:k=8
 ·subst K;simp only[zS,am,ag,g,a,Int.reduceBEq];exact G.zero (m:=12) (at':=a0+1) E p k1 dy dy rfl
 by_cases M:k=9
 ·subst M;simp only[zS,am,ag,g,a,Int.reduceBEq];exact G.zero (m:=12) (at':=a0+1) E p k1 dy dy rfl
 simp only[zS,am,ag,g,a,bn k1,bn I,bn J,bn K,bn M];exact G.zero (m:=12) (at':=a0+1) E p k1 dy dy (cr dy).symm
def nilS:Value:= .slice none 0 0
theorem chg_own{w w':World}{x:Value}(a:w.grownBy w' x.ownBlock):ad x.ownBlock.toList w w':=(ad.refl _ _).grown a λk b=> .inl (by simp[b])
structure LL(w:World)(B:Nat)(vs:List Value)(L:List (List ez)):Prop where
 hb:hp w B=some (.cells vs.toArray 116)
 len:vs.length=L.length
 own:∀(j:Nat) (x:Value) (ops:List ez),vs[j]? =some x->L[j]? =some ops->w.ownsRow (B+1) 37 6 x ops.length (ops.flatMap dC)
 dis:∀(i j:Nat) (x y:Value) (k:Nat),i≠j->vs[i]? =some x->vs[j]? =some y->x.ownBlock=some k->y.ownBlock=some k->False
theorem LL.an{w w':World}{B:Nat}{vs:List Value}{L:List (List ez)}(h:LL w B vs L){S:List Nat}(b:ad S w w')(c:∀k∈S,k<B):LL w' B vs L:=
 ⟨b.at h.hb (λa=>by have:=c _ a;omega),h.len,λj x ops d e=>eZ (h.own j x ops d e) b λk f a=>by have:=((h.own j x ops d e).lt k f).1;have:=c _ a;omega,h.dis⟩
theorem LL.il{w:World}{B:Nat}{vs:List Value}{L:List (List ez)}(h:LL w B vs L){q n:Nat}(l:q<B)(b:n=L.length):IsL w q (.slice (some ⟨B,0,none⟩) n n) L:=by
 subst b;refine⟨_,_,vs,rfl,λj u a=>⟨_,rfl,?_⟩,h.len,λj x ops c d=>?_,λp hp=>by cases hp;simp;omega⟩
 ·have e:=(ce.1 a).1;rw[<- a,eR];show w.cell? ⟨B,0+j,none⟩=_;rw[gi,h.hb,aN];simp
 ·obtain⟨A',f,g,i,k,_⟩:=aG (h.own j x ops c d);exact⟨A',f,g,i,λp hp=>by have:=(k p hp).1;omega⟩
theorem getElem?_set'{α:Type}{l:List α}{i j:Nat}{a b:α}(h:(l.set i a)[j]? =some b):(i=j/\a=b)\/(i≠j/\l[j]? =some b):=by
 rw[cU]at h;split at h
 ·split at h
  ·rename_i e _;cases h;exact .inl ⟨e,rfl⟩
  ·cases h
 ·rename_i e;exact .inr ⟨e,h⟩
theorem LL.push{w w':World}{B:Nat}{vs:List Value}{L:List (List ez)}(h:LL w B vs L){i:Nat}{x x':Value}{ops:List ez}(s:vs[i]? =some x)(H:L[i]? =some ops)(o:ez)(q:w'.ownsRow (B+1) 37 6 x' (ops.length+1) (ops.flatMap dC++dC o))(I:w.grownBy w' x.ownBlock)(A:iB w x x'):
  LL (put w' B (vs.set i x').toArray 116) B (vs.set i x') (L.set i (ops++ [o])):=by
 have C:=chg_own I;have t:hp w' B=some (.cells vs.toArray 116):=C.at h.hb (λu=>by have:=((h.own i x ops s H).lt B (by simpa using u)).1;omega);have D:ad [B] w' (put w' B (vs.set i x').toArray 116):=(ad.refl _ _).put (.inl (by simp)) _ _;have E:∀{w0:World} {y:Value} {n:Nat} {zs:List Value},w0.ownsRow (B+1) 37 6 y n zs->∀k,y.ownBlock=some k->k∉ [B]:=λc k v=>by have:=(c.lt k v).1;simp;omega
 refine⟨aq (az t) _ _,by simp[h.len],λj y p c d=>?_,?_⟩
 ·rcases getElem?_set' c with⟨rfl,rfl⟩|⟨g,c⟩
  ·have:p=ops++ [o]:=by
    rcases getElem?_set' d with⟨_,e⟩|⟨g,_⟩
    ·exact e.symm
    ·exact absurd rfl g
   subst this;rw[cJ,flat_snoc];exact eZ q D (E q)
  ·rcases getElem?_set' d with⟨e,_⟩|⟨_,d⟩
   ·exact absurd e g
   ·have h1:=h.own j y p c d;have F:=eZ h1 C λk v u=>h.dis i j x y k g s c (by simpa using u) v;exact eZ F D (E F)
 ·intro a b y z k r c m f l;have old:∀{j:Nat} {y:Value},i≠j->vs[j]? =some y->y.ownBlock=some k->k<w.heap.size:=fun{j y} J c f=>by
   obtain⟨p,d⟩:∃p,L[j]? =some p:=⟨_,bZ (by have:=(ce.1 c).1;have:=h.len;omega)⟩
   exact((h.own j y p c d).lt k f).2
  rcases getElem?_set' c with⟨rfl,rfl⟩|⟨G,c⟩
  ·rcases getElem?_set' m with⟨e,_⟩|⟨hb,m⟩
   ·exact r e
   ·rcases A k f with h1|h1
    ·exact h.dis i b x z k hb s m h1 l
    ·have:=old hb m l;omega
  ·rcases getElem?_set' m with⟨rfl,rfl⟩|⟨hb,m⟩
   ·rcases A k l with h1|h1
    ·exact h.dis i a x y k G s c h1 f
    ·have:=old G c f;omega
   ·exact h.dis a b y z k r c m f l
theorem tot_set{L:List (List ez)}{i:Nat}{ops:List ez}(h:L[i]? =some ops)(o:ez):uB (L.set i (ops++ [o]))=uB L+1:=by
 induction L generalizing i with
 |nil=>simp at h
 |cons x xs a=>
  cases i with
  |zero=>simp at h;subst h;simp[uB];omega
  |succ i=>have:=a (i:=i) (by simpa using h);simp[uB,this];omega
theorem tot_ge{L:List (List ez)}{ops:List ez}(h:ops∈L):ops.length<=uB L:=by
 induction L with
 |nil=>simp at h
 |cons x xs a=>
  rcases dg.1 h with rfl|h
  ·simp[uB]
  ·have:=a h;simp[uB];omega
theorem LL.nils{w:World}{B n:Nat}(h:hp w B=some (.cells (List.replicate n nilS).toArray 116)):LL w B (List.replicate n nilS) (List.replicate n []):=by
 refine⟨h,by simp,λj x ops a d=>?_,λi j x y k e a l b f=>?_⟩
 ·have c:=List.eq_of_mem_replicate (cD a);have g:=List.eq_of_mem_replicate (cD d);subst c;subst g;exact World.ownsRow_nil _ _ _ _
 ·have c:=List.eq_of_mem_replicate (cD a);subst c;cases b
theorem tot_nils(n:Nat):uB (List.replicate n [])=0:=by
 induction n with
 |zero=>rfl
 |succ n a=>rw[List.replicate_succ];simp[uB,a]
theorem chgT{S T:List Nat}{a b c:World}(h:ad S a b)(k:ad T b c)(hT:∀t∈T,t∈S\/a.heap.size<=t):ad S a c:=
 ⟨k.os.trans h.os,k.tape.trans h.tape,k.output.trans h.output,cQ h.size k.size,λi d e=>(k.block i (cY d h.size) λf=>by rcases hT i f with h1|h1;exact e h1;omega).trans (h.block i d e)⟩
structure GI(W w:World)(q B n:Nat)(A:Option Addr)(c:Nat)(xs:List Int)(i at':Nat)(vs:List Value)(L:List (List ez)):Prop where
 sq:hp w q=some (.cells #[.slice A xs.length c,bS at'] 114)
 ll:LL w B vs L
 gen:∀ops∈L,∀o∈ops,GenO o
 n:L.length=n
 qB:q<B
 qW:W.heap.size<=q
 at1:at'<=13*i
 tt:uB L<=i
 ch:ad [] W w
def OpsP(W:World)(n:Nat)(v:Value)(w':World):Prop:=∃B vs L,v= .slice (some ⟨B,0,none⟩) n n/\LL w' B vs L/\(∀ ops∈L,∀o∈ops,GenO o)/\L.length=n/\uB L<=40/\W.heap.size<=B/\ad [] W w'
theorem c_genOps{W:World}{A:Option Addr}{c:Nat}{xs:List Int}(R:rr .i64 W A xs){n:Nat}(n0:0<n)(n8:n<=64){mo:Nat}(a6:mo<=40):
  aa prog 27 [.slice A xs.length c,bS n,bS mo] W (OpsP W n):=by
 apply F27_ok;obtain⟨z,S,hz,hs,T⟩:=inf_116;simp only[F27,zS,bd_114_0,ak,jJ (kl:= .i64) (kc:= .i64) (n:=n) Tryz.underlying70 S hz (by rw[hs];omega) (by rw[T];omega) dy,ah];have B:∀m:Nat,madeCells (Go.Value.slice none 0 0).cells (m*z.size)=(List.replicate m nilS).toArray:=λm=>by
  apply Array.toList_inj.1;have:=toList_madeCells_one (Go.Value.slice none 0 0) (m*z.size);rw[hs,dm]at this⊢;exact this
 simp only[B];have C:∀(d i at':Nat) (w:World) (vs:List Value) (L:List (List ez)),GI W w W.heap.size (W.heap.size+1) n A c xs i at' vs L->i+d=mo->
   P27_0 (.slice A xs.length c) (bS n) (bS mo) (bU W.heap.size) (.slice (some ⟨W.heap.size+1,0,none⟩) n n) (bS i) w (OpsP W n):=by
  intro d;induction d with
  |zero=>
   intro i at' w vs L h S;apply L27_0_ok;have:¬(i:Int)<mo:=dy;simp only[L27_0,zS,this];exact⟨_,vs,L,rfl,h.ll,h.gen,h.n,by have:=h.tt;omega,dy,h.ch⟩
  |succ d ih=>
   intro i at' w vs L h S;apply L27_0_ok;have D:(i:Int)<mo:=dy;by_cases q:(at':Int)<xs.length
   ·simp only[L27_0,zS,D,rO,ag,h.sq,t2_1,aK,q];have F:∀p,A=some p->p.block≠W.heap.size:=λp hp=>by
     obtain⟨p',e1,e2⟩:=R 0 dy;rw[e1]at hp;cases hp;have:=qt e2;rw[blk_add]at this;omega
    have a7:=h.at1;refine(c_SeqN h.sq (R.an h.ch.below) F dy (m:=n) dy dy).mono ?_;rintro _ w1 ⟨⟨r,rfl,hr⟩,e,c1⟩;have a8:r<n:=dy;have O:LL w1.drew (W.heap.size+1) vs L:=(h.ll.an c1 (λk a=>by simp at a;omega)).an (ad.refl [] _).drew (λk a=>by simp at a);have G:ad [] W w1.drew:=by
     refine ad.drew (chgT h.ch c1 λk a=> .inr ?_);simp at a;subst a;exact cy _
    have e:hp w1.drew W.heap.size=some (.cells #[.slice A xs.length c,bS ((at'+1:Nat):Int)] 114):=e;generalize w1.drew=w2 at*;have a9:=h.n;have b1:=O.len;obtain⟨x,q⟩:∃x,vs[r]? =some x:=⟨_,bZ dy⟩
    obtain⟨ops,s⟩:∃ops,L[r]? =some ops:=⟨_,bZ dy⟩
    have t:ops∈L:=cD s;have b2:=h.tt;have b3:=tot_ge t;have E:Env w2 W.heap.size A xs (.slice (some ⟨W.heap.size+1,0,none⟩) n n) L:=⟨R.an G.below,F,O.il dy h.n.symm,by have:=az e;exact this,dy,λl hl=>by have:=tot_ge hl;omega,dy⟩
    have ia:ai prog (Instr.indexAt 70 (.slice (some ⟨W.heap.size+1,0,none⟩) n n) (bS (r:Int)))=some (.pointer (some ⟨W.heap.size+1,0+r*1,none⟩)):=by
     have:=ia_70 (b:=W.heap.size+1) (p:=0) (n:=n) (c:=n) (j:= .i64) (i:=(r:Int)) dy dy;rw[cq]at this;exact this
    have H:∀w',LL w' (W.heap.size+1) vs L->ao (hp w' (W.heap.size+1)) (0+r*1)=some x:=λw' h'=>by
     rw[h'.hb,aN,dm,cV];simpa using q
    have fin:∀v f,GenP w2 W.heap.size A c xs (at'+1) 12 v f->LL f (W.heap.size+1) vs L/\(dF prog (Instr.buildSlice 116 1 #[(0,v)]) f λU w=>
      dF prog (Builtin.append_ #[116,116] 116 #[x,U]) w λV w=>
      dE prog (Instr.storeAt 116 (.pointer (some ⟨W.heap.size+1,0+r*1,none⟩)) V) w λw=>
      P27_1 (.slice A xs.length c) (bS n) (bS mo) (bU W.heap.size) (.slice (some ⟨W.heap.size+1,0,none⟩) n n) (bS i) w (OpsP W n)):=by
     rintro v f ⟨o,y,rfl,hO,X,b4,b5,c3⟩;have g:=O.an c3 (λk a=>by simp at a;omega);have Y:ad [] W f:=chgT G c3 λk a=> .inr (by simp at a;subst a;exact cy _);refine⟨g,?_⟩;have b6:=az g.hb;refine ps_116 (λu hu=>List.all_eq_true.1 (show(dC o).all (·.oneCell')=true from rfl) u hu) (g.own r x ops q s) dy dy λx' I J P Z=>?_;have K:hp I (W.heap.size+1)=some (.cells vs.toArray 116):=(chg_own P).at g.hb (λB=>by have:=((g.own r x ops q s).lt _ (by simpa using B)).1;omega);have a1:hp I W.heap.size=some (.cells #[.slice A xs.length c,bS y] 114):=(chg_own P).at X (λB=>by have:=((g.own r x ops q s).lt _ (by simpa using B)).1;omega);have a2:mX (hp I (W.heap.size+1)) (0+r*1+1)=true:=by rw[K];simp;omega
     obtain⟨A',Q,rfl,_,_,_⟩:=aG J;rw[st_116 rfl rfl a2,K,ay,ar];have e5:vs.toArray.setIfInBounds (0+r*1) (.slice A' (ops.length+1) Q)=(vs.set r (.slice A' (ops.length+1) Q)).toArray:=by rw[dm,cV];simp
     rw[e5];have l5:=g.push q s o J P Z;have a3:ad [] W (put I (W.heap.size+1) (vs.set r (.slice A' (ops.length+1) Q)).toArray 116):=by
      refine ad.put (Y.grown P λk a=> .inr ?_) (.inr dy) _ _;have:=((g.own r x ops q s).lt k a).1;omega
     have a4:hp (put I (W.heap.size+1) (vs.set r (.slice A' (ops.length+1) Q)).toArray 116) W.heap.size=some (.cells #[.slice A xs.length c,bS y] 114):=by rw[aV dy];exact a1
     apply L27_1_ok;simp only[L27_1,zS,aj,ap (n:=(i:Int)+1) dy dy];have:=ih (i+1) y _ _ _ ⟨a4,l5,λos a5 o' M=>?_,by simpa using h.n,dy,dy,dy,by rw[tot_set s];omega,a3⟩ dy
     ·rw[db i 1]at this;exact this
     ·rcases List.mem_or_eq_of_mem_set a5 with h1|h1
      ·exact h.gen os h1 o' M
      ·subst h1;rcases List.mem_append.1 M with h2|h2
       ·exact h.gen ops t o' h2
       ·simp at h2;subst h2;exact hO
    simp only[zS,ia,oe,H w2 O];refine⟨?_,?_⟩
    ·refine(c_genOp E e dy).mono λv f hv=>?_;exact(fin v f hv).2
    ·refine(c_genOp E e dy).mono λv f hv=>?_;obtain⟨g,k3⟩:=fin v f hv;simp only[zS,H f g];exact k3
   ·simp only[L27_0,zS,D,rO,ag,h.sq,t2_1,aK,q];exact⟨_,vs,L,rfl,h.ll,h.gen,h.n,by have:=h.tt;omega,dy,h.ch⟩
 refine C mo 0 0 _ _ (List.replicate n []) ⟨?_,LL.nils ?_,λops h o s=>?_,by simp,dy,cy _,dy,by rw[tot_nils];omega,((ad.refl _ _).alloc _).alloc _⟩ dy
 ·rw[af,ah,bY dy,af,bX rfl];rfl
 ·rw[af,ah,bX rfl]
 ·have:=List.eq_of_mem_replicate h;subst this;cases s
section
variable{c:cP}{m m':bI}{s:iP}{p:PuV}{l:List Int}
def qf(c:cP)(a:Nat):Prop:=∀i,i<cS c->a≠iS c i
structure iC(c:cP)(m:bI):Prop where
 ok:eu c m
 rt:∀i,i<cS c->(bd (di m (iS c i))).mark<=cC c+1
theorem rdM_set(m:bI)(a b:Nat)(v:Int):di (m.set a v) b=if b=a/\a<m.length then v else di m b:=by
 rw[di,di,cu,cu,cU];by_cases h:a=b
 ·subst h;by_cases c:a<m.length
  ·rw[bX rfl,bX c,bX ⟨rfl,c⟩];rfl
  ·rw[bX rfl,bY c,bY (λh=>c h.2),df dy]
 ·rw[bY h,bY (λh'=>h h'.1.symm)]
theorem iC.set(M:iC c m){a:Nat}(d:qf c a){v:Int}(hv:tk v):iC c (m.set a v):=
 ⟨⟨by rw[cE];exact M.ok.len,mU_set M.ok.u a hv⟩,λi b=>by
  rw[rdM_set,bY (λh=>d i b h.1.symm)];exact M.rt i b⟩
theorem putRt_u(r:RtV):tk (lN r):=by
 unfold lN;split
 ·rename_i h;obtain⟨⟨a,b⟩,⟨c,d⟩,⟨e,f⟩,g,i⟩:=h;constructor<;>omega
 ·constructor<;>omega
theorem get_put_mark(r:RtV):(bd (lN r)).mark=r.mark\/(bd (lN r)).mark=0:=by
 unfold bd lN;simp only;split
 ·rename_i h;obtain⟨⟨a,b⟩,⟨c,d⟩,⟨e,f⟩,g,i⟩:=h;left;omega
 ·right;rfl
theorem iC.setRt(M:iC c m)(j:Nat){r:RtV}(b:r.mark<=cC c+1):iC c (m.set (iS c j) (lN r)):=
 ⟨⟨by rw[cE];exact M.ok.len,mU_set M.ok.u _ (putRt_u r)⟩,λi a=>by
  rw[rdM_set];split
  ·rcases get_put_mark r with h|h<;>rw[h]<;>omega
  ·exact M.rt i a⟩
theorem rt_0:qf c 0:=λi _ h=>by unfold iS at h;omega
theorem rt_1:qf c 1:=λi _ h=>by unfold iS at h;omega
theorem rt_2:qf c 2:=λi _ h=>by unfold iS at h;omega
theorem rt_pin{k:Nat}(a:k<cW c):qf c (fS c k):=λi _ h=>by unfold iS fS at h;omega
theorem rt_lk(k:Nat):qf c (aLk c k):=λi a h=>by unfold iS aLk at h;omega
theorem rt_sl(k:Nat):qf c (aSl c k):=λi a h=>by unfold iS aSl at h;omega
theorem rt_wd(k i:Nat):qf c (aWd c k i):=λj a h=>by unfold iS aWd at h;omega
structure StkI(c:cP)(s:iP):Prop where
 hd:qf c s.head
 lk:∀i,qf c (s.ee+i)
 n:s.n<=4096
theorem poolJ(N:gM c):StkI c (bP c):=⟨rt_0,λi=>by have:=rt_lk (c:=c) i;unfold aLk at this;show qf c (aLk c 0+i);unfold aLk;exact this,N.b2.2⟩
theorem spareJ(N:gM c):StkI c (dL c):=⟨rt_1,λi=>by have:=rt_sl (c:=c) i;unfold aSl at this;show qf c (aSl c 0+i);unfold aSl;exact this,N.b4.2⟩
theorem top_rng(s:iP){w:Int}(a:tk w): -1<=pZ s w/\pZ s w<s.n:=by
 have:=hd_bd a;unfold pZ;split<;>constructor<;>omega
theorem bel_rng(s:iP){w:Int}(a:tk w): -1<=gJ s w/\gJ s w<s.n:=by
 unfold gJ;obtain⟨b,c⟩:=a;split<;>constructor<;>omega
theorem putHd_u(i t:Int):tk (putHd i t):=by
 unfold putHd;split
 ·constructor<;>omega
 ·constructor<;>omega
theorem nextHd_u(w i:Int):tk (sK w i):=putHd_u _ _
theorem inS_getD{s:iP}{l:List Int}(h:tC s l){i:Nat}(a:i<l.length):0<=l.getD i 0/\l.getD i 0<s.n:=by
 obtain⟨y,_,b,c,d⟩:=h.at a;rw[b];exact⟨c,d⟩
theorem qU{s:iP}{a b:List Int}(c:tC s a)(d:tC s b):tC s (a++b):=λx e=>(List.mem_append.1 e).elim (c x) (d x)
theorem lT{s:iP}:tC s []:=λx a=>absurd a (by simp)
theorem inS_take{s:iP}{a:List Int}(h:tC s a)(k:Nat):tC s (a.take k):=λx b=>h x (List.mem_of_mem_take b)
theorem inS_drop{s:iP}{a:List Int}(h:tC s a)(k:Nat):tC s (a.drop k):=λx b=>h x (List.mem_of_mem_drop b)
theorem pu_inv(I:StkI c s)(M:iC c m)(O:tE s p):iC c (eX s m p).1/\tE s (eX s m p).2/\(eX s m p).2.l=p.l:=by
 have j:=I.n;unfold eX;by_cases b:p.done=true
 ·rw[bX b];exact⟨M,O,rfl⟩
 have d:p.done=false:=by simpa using b
 obtain⟨a,k⟩:=O.nd d;rw[bY b];by_cases e:p.at'+1<p.l.length
 ·rw[bX e];have:=inS_getD O.l e;exact⟨M.set (I.lk _) (by constructor<;>omega),⟨O.l,O.n,O.u,λ_=>⟨a,by show p.at'+1<=p.l.length+1;omega⟩⟩,rfl⟩
 rw[bY e];by_cases f:p.at'+1=p.l.length
 ·rw[bX f];exact⟨M,⟨O.l,O.n,iF M.ok.u _,λ_=>⟨a,by show p.at'+1<=p.l.length+1;omega⟩⟩,rfl⟩
 rw[bY f];by_cases g:p.at'=p.l.length
 ·rw[bX g];have:=top_rng s O.u;exact⟨M.set (I.lk _) (by constructor<;>omega),⟨O.l,O.n,O.u,λ_=>⟨a,by show p.at'+1<=p.l.length+1;omega⟩⟩,rfl⟩
 rw[bY g];by_cases i:di m s.head=p.old
 ·rw[bX i];exact⟨M.set I.hd (nextHd_u _ _),⟨O.l,O.n,O.u,λh=>by cases h⟩,rfl⟩
 ·rw[bY i];exact⟨M,⟨O.l,O.n,O.u,λ_=>⟨a,by show p.l.length-1<=p.l.length+1;omega⟩⟩,rfl⟩
theorem pu_new{l:List Int}(h:tC s l)(a:l.length<=100000):tE s (puNew l):=⟨h,a,⟨dj _,by show(0:Int)<=_;omega⟩,λb=>by
 have:¬l.length=0:=by simpa [puNew]using b
 show 1<=l.length/\0<=_;omega⟩
structure PoI(s:iP)(p:PoV):Prop where
 ok:PoOk s p
 n:p.l.length<=8
theorem po_new(most:Int):PoI s (poNew most):=⟨⟨lT,by show 0<=10000;omega,⟨dj _,by show(0:Int)<=_;omega⟩,by show min (max most 1) 8<=8;omega,λ_ h=>by cases h⟩,by show 0<=8;omega⟩
theorem po_inv{p:PoV}(I:StkI c s)(M:iC c m)(O:PoI s p):iC c (dS s m p).1/\PoI s (dS s m p).2:=by
 have r:=I.n;have a:=O.ok;have b:=a.mo;unfold dS;by_cases e:p.done=true
 ·rw[bX e];exact⟨M,O⟩
 have f:p.done=false:=by simpa using e
 rw[bY e];have g:=iF M.ok.u s.head;have t:=top_rng s g;by_cases a0:p.at'=0
 ·rw[bX a0];by_cases i:pZ s (di m s.head)<0
  ·rw[bX i];exact⟨M,⟨lT,by show 0<=10000;omega,g,b,λh=>by cases h⟩,by show 0<=8;omega⟩
  ·rw[bY i];exact⟨M,⟨λx j=>by rw[dh.1 j];omega,by show 1<=10000;omega,g,b,λ_ _=>by show 1<=1;omega⟩,by show 1<=8;omega⟩
 rw[bY a0];by_cases k:p.at'=1
 ·rw[bX k];have hb:=bel_rng s (iF M.ok.u (s.ee+(p.l.getD (p.l.length-1) 0).toNat));generalize gJ s (di m (s.ee+(p.l.getD (p.l.length-1) 0).toNat))=d at*;have i:=a.nd f k;by_cases o:0<=d/\(p.l.length:Int)<p.most
  ·rw[bX o];exact⟨M,⟨qU a.l (λx j=>by rw[dh.1 j];omega),by show(p.l++ [d]).length<=10000;rw[cJ];show p.l.length+1<=_;omega,a.u,b,λ_ _=>by show 1<=(p.l++ [d]).length;rw[cJ];omega⟩,by show(p.l++ [d]).length<=8;rw[cJ];show p.l.length+1<=8;omega⟩
  ·rw[bY o];exact⟨M,⟨a.l,a.n,a.u,b,λ_ h=>by cases h⟩,O.n⟩
 rw[bY k];by_cases q:di m s.head=p.old
 ·rw[bX q];exact⟨M.set I.hd (nextHd_u _ _),⟨a.l,a.n,a.u,b,λh=>by cases h⟩,O.n⟩
 ·rw[bY q];exact⟨M,⟨a.l,a.n,a.u,b,λ_ h=>by cases h⟩,O.n⟩
theorem po_got{p:PoV}(O:PoI s p):tC s (ec p)/\(ec p).length<=8:=by
 unfold ec;split
 ·exact⟨O.ok.l,O.n⟩
 ·exact⟨lT,by show 0<=8;omega⟩
end
section
variable{c:cP}{m m':bI}{s:iP}{p:PuV}{l:List Int}{B:Nat}{su:lO}
structure pA(c:cP)(B:Nat)(su:lO):Prop where
 l3:su.lb.l.length=3
 st:tC (bP c) su.st
 lb:∀k,tC (bP c) (su.lb.l.getD k [])
 n:su.st.length+jE su.lb<=B
theorem pA.mono{a:Nat}(U:pA c B su)(h:B<=a):pA c a su:=⟨U.l3,U.st,U.lb,cQ U.n h⟩
theorem pA.ok(U:pA c B su)(h:B<=90000):rn su/\su.st.length+100<=100000:=by
 have:=U.n;refine⟨⟨dy,?_⟩,dy⟩;show jE su.lb<=200000;omega
theorem su_new:pA c 0 suNew:=⟨rfl,lT,λk=>by
 match k with
 |0=>exact lT
 |1=>exact lT
 |2=>exact lT
 |k+3=>exact lT,cy _⟩
theorem su_give(U:pA c B su)(a:tC (bP c) l):pA c (B+l.length) (qP su l):=⟨U.l3,qU U.st a,U.lb,by
 have:=U.n;show(su.st++l).length+jE su.lb<=_;rw[cJ];omega⟩
theorem lbl_set{b:sL}(c:b.l.length=3){k:Nat}(d:k<=2)(x:List Int)(t:List Int)(y:Int):jE ⟨t,b.l.set k x,y⟩+(b.l.getD k []).length=jE b+x.length:=by
 have a:k<b.l.length:=dy;unfold jE;simp only[iX _ a];have:k=0\/k=1\/k=2:=dy;rcases this with rfl|rfl|rfl
 ·simp only[if_true,show(1:Nat)≠0 by omega,show(2:Nat)≠0 by omega,if_false];omega
 ·simp only[if_true,show(0:Nat)≠1 by omega,show(2:Nat)≠1 by omega,if_false];omega
 ·simp only[if_true,show(0:Nat)≠2 by omega,show(1:Nat)≠2 by omega,if_false];omega
theorem inS_set{b:sL}(e:b.l.length=3)(a:∀k,tC (bP c) (b.l.getD k [])){k:Nat}(f:k<=2){x:List Int}(d:tC (bP c) x):∀j,tC (bP c) ((b.l.set k x).getD j []):=λj=>by
 rw[iX _ dy];split
 ·exact d
 ·exact a j
theorem mod3(t:Int):(t%3).toNat<=2:=dy
theorem su_retire(U:pA c B su)(b:tC (bP c) l)(tag:Int):pA c (B+l.length) (oC su tag l):=by
 have d:=U.n;have a:=mod3 tag;unfold oC eM;split
 ·exact⟨U.l3,by show tC _ (su.st++ []);rw[List.append_nil];exact U.st,U.lb,by show(su.st++ []).length+jE su.lb<=_;rw[List.append_nil];omega⟩
 ·split
  ·have e:=lbl_set U.l3 a l (su.lb.tag.set (tag%3).toNat tag) tag;refine⟨by show(su.lb.l.set _ _).length=3;rw[cE];exact U.l3,qU U.st (U.lb _),inS_set U.l3 U.lb a b,?_⟩;show(su.st++su.lb.l.getD (tag%3).toNat []).length+jE ⟨su.lb.tag.set (tag%3).toNat tag,su.lb.l.set (tag%3).toNat l,tag⟩<=B+l.length;rw[cJ];omega
  ·have e:=lbl_set U.l3 a (su.lb.l.getD (tag%3).toNat []++l) (su.lb.tag.set (tag%3).toNat tag) tag;rw[cJ]at e;refine⟨by show(su.lb.l.set _ _).length=3;rw[cE];exact U.l3,by show tC _ (su.st++ []);rw[List.append_nil];exact U.st,inS_set U.l3 U.lb a (qU (U.lb _) b),?_⟩;show(su.st++ []).length+jE ⟨su.lb.tag.set (tag%3).toNat tag,su.lb.l.set (tag%3).toNat (su.lb.l.getD (tag%3).toNat []++l),tag⟩<=B+l.length;rw[List.append_nil];omega
theorem least_le(b:sL)(now:Int):(kC b now).toNat<=2:=by
 unfold kC cO;repeat' split
 all_goals simp
theorem ready_inv(now:Int):∀(f:Nat) (b:sL) (a:List Int),b.l.length=3->(∀ k,tC (bP c) (b.l.getD k []))->tC (bP c) a->(fp f b now a).2.l.length=3/\(∀ k,tC (bP c) ((fp f b now a).2.l.getD k []))/\tC (bP c) (fp f b now a).1/\(fp f b now a).1.length+jE (fp f b now a).2=a.length+jE b
 |0,b,a,d,g,i=>⟨d,g,i,rfl⟩
 |f+1,b,a,d,g,i=>by
  unfold fp;split
  ·have m:=least_le b now;have e:=lbl_set d m [] b.tag b.last;have j:=ready_inv now f {b with l:=b.l.set (kC b now).toNat []} (a++b.l.getD (kC b now).toNat []) (by show(b.l.set _ _).length=3;rw[cE];exact d) (inS_set d g m lT) (qU i (g _));refine⟨j.1,j.2.1,j.2.2.1,j.2.2.2.trans ?_⟩;rw[cJ];simp only[List.length_nil]at e;show a.length+(b.l.getD (kC b now).toNat []).length+jE ⟨b.tag,b.l.set (kC b now).toNat [],b.last⟩=_;omega
  ·exact⟨d,g,i,rfl⟩
theorem su_ready(U:pA c B su)(now:Int):pA c B (fT su now):=by
 obtain⟨a,b,d,e⟩:=ready_inv now 4 su.lb [] U.l3 U.lb lT;have f:=U.n;refine⟨a,qU U.st d,b,?_⟩;show(su.st++(fp 4 su.lb now []).1).length+jE (fp 4 su.lb now []).2<=B;rw[cJ];simp only[List.length_nil,cV]at e;omega
theorem su_over(U:pA c B su)(most:Int):pA c B (fr most su).2/\tC (bP c) (fr most su).1/\(fr most su).1.length<=B:=by
 have a:=U.n;refine⟨⟨U.l3,inS_drop U.st _,U.lb,?_⟩,inS_take U.st _,?_⟩
 ·show(su.st.drop _).length+jE su.lb<=B;rw[List.length_drop];omega
 ·show(su.st.take _).length<=B;rw[List.length_take];omega
theorem su_all(U:pA c B su):pA c B (nr su).2/\tC (bP c) (nr su).1/\(nr su).1.length<=B:=by
 have a:=U.n;exact⟨⟨U.l3,lT,U.lb,by show 0+jE su.lb<=B;omega⟩,U.st,by show su.st.length<=B;omega⟩
structure TkI(c:cP)(t:TkV):Prop where
 a:t.at'<=1
 p:t.at'≠0->t.done=false->PoI (bP c) t.p
 k: -1<=t.chunk/\t.chunk<cC c
theorem TkI.ok{t:TkV}(T:TkI c t):TkOk c t:=⟨T.a,λb d=>(T.p b d).ok⟩
theorem kept_inv{t:TkV}(U:pA c B su)(T:TkI c t):pA c B (eK su t).1/\TkI c (eK su t).2/\(eK su t).2.at'=t.at':=by
 have b:=U.n;unfold eK;split
 ·exact⟨U,T,rfl⟩
 ·rename_i h;have d:=inS_getD U.st (i:=su.st.length-1) dy;refine⟨⟨U.l3,inS_take U.st _,U.lb,?_⟩,⟨T.a,λ_ h=>(by cases h),?_⟩,rfl⟩
  ·show(su.st.take _).length+jE su.lb<=B;rw[List.length_take];omega
  ·show -1<=su.st.getD (su.st.length-1) 0/\su.st.getD (su.st.length-1) 0<cC c;have:((bP c).n:Int)=cC c:=rfl;omega
theorem tpop_inv{t:TkV}(T:TkI c t):TkI c (tkPop c t):=⟨cy _,λ_ _=>po_new _,T.k⟩
theorem tk0I:TkI c tk0:=⟨cX _,λh=>absurd rfl h,by show -1<=(-1:Int)/\(-1:Int)<_;omega⟩
theorem tknew_inv(U:pA c B su):pA c B (kr c su).1/\TkI c (kr c su).2:=by
 have h:=kept_inv (t:=⟨0,-1,-1,poNew 0,false⟩) U tk0I;unfold kr;simp only;split
 ·exact⟨h.1,tpop_inv h.2.1⟩
 ·exact⟨h.1,h.2.1⟩
theorem tk_inv{t:TkV}(N:gM c)(M:iC c m)(U:pA c B su)(T:TkI c t):iC c (fg c m su t).1/\pA c (B+8) (fg c m su t).2.1/\TkI c (fg c m su t).2.2:=by
 have b:=U.mono (Nat.le_add_right B 8);unfold fg;by_cases d:t.done=true
 ·rw[bX d];exact⟨M,b,T⟩
 rw[bY d];have e:t.done=false:=by simpa using d
 by_cases a0:t.at'=0
 ·rw[bX a0];have h:=kept_inv (t:={t with seen:=fP (di m 2)}) (su_ready U (fP (di m 2))) ⟨T.a,T.p,T.k⟩;simp only;split
  ·exact⟨M,h.1.mono (Nat.le_add_right B 8),h.2.1⟩
  ·exact⟨M,h.1.mono (Nat.le_add_right B 8),tpop_inv h.2.1⟩
 ·rw[bY a0];obtain⟨f,g⟩:=po_inv (poolJ N) M (T.p a0 e);obtain⟨j,o⟩:=po_got g;simp only;generalize dS (bP c) m t.p=r at*;split
  ·exact⟨f,b,⟨T.a,λ_ _=>g,T.k⟩⟩
  ·split
   ·exact⟨f,b,⟨T.a,λ_ h=>(by cases h),T.k⟩⟩
   ·rename_i q;have s:=inS_getD j (i:=0) dy;have l:=su_give U (inS_drop j 1);refine⟨f,l.mono ?_,⟨T.a,λ_ h=>(by cases h),?_⟩⟩
    ·rw[List.length_drop];omega
    ·show -1<=(ec r.2).getD 0 0/\(ec r.2).getD 0 0<cC c;have:((bP c).n:Int)=cC c:=rfl;omega
theorem gi_inv{g:GiV}(N:gM c)(M:iC c m)(G:tE (bP c) g.p):iC c (dJ c m g).1/\tE (bP c) (dJ c m g).2.p:=by
 unfold dJ;split
 ·exact⟨M,G⟩
 ·obtain⟨a,b,_⟩:=pu_inv (poolJ N) M G;exact⟨a,b⟩
theorem gi_new(a:tC (bP c) l)(b:l.length<=100000):tE (bP c) (iE l).p:=pu_new a b
end
section
variable{c:cP}{m m':bI}{s:iP}{p:PuV}{l:List Int}{B n:Nat}{su:lO}
theorem wrapU(x:Int):tk (IntKind.u64.wrap x):=by
 have h:IntKind.u64.wrap x=x%18446744073709551616:=by simp[IntKind.wrap,IntKind.signed,IntKind.bits]
 rw[h];constructor<;>omega
structure CrI(c:cP)(n:Nat)(x:CrV):Prop where
 at':x.at'<=2
 steps:0<=x.steps/\x.steps<=n
 p:x.at'=0->PoI (dL c) x.p
 slot:x.at'≠0->0<=x.slot/\x.slot<cS c
 root:0<=x.root.gen/\x.root.gen<=4294967295
 pt:x.done=false->x.point≠0->x.at'≠0
theorem CrI.ok{x:CrV}(X:CrI c n x)(a:n<=1000000000):CrOk c x:=⟨X.at',by have:=X.steps;omega,λh=>(X.p h).ok,X.slot,X.root⟩
theorem crI_new(cls:Int):CrI c 0 (crNew cls):=⟨cX _,⟨dj _,dj _⟩,λ_=>po_new 1,λh=>absurd rfl h,⟨dj _,by show(0:Int)<=_;omega⟩,λ_ h=>absurd rfl h⟩
theorem CrI.mono{a:Nat}{x:CrV}(X:CrI c n x)(h:n<=a):CrI c a x:=⟨X.at',by have:=X.steps;omega,X.p,X.slot,X.root,X.pt⟩
theorem cr_inv{x:CrV}(N:gM c)(M:iC c m)(X:CrI c n x):iC c (eL c m x).1/\CrI c (n+1) (eL c m x).2:=by
 have k:=X.steps;unfold eL;by_cases a:x.done=true
 ·rw[bX a];exact⟨M,X.mono (Nat.le_succ n)⟩
 have f:x.done=false:=by simpa using a
 rw[bY a];by_cases a0:x.at'=0
 ·rw[bX a0];obtain⟨b,d⟩:=po_inv (spareJ N) M (X.p a0);obtain⟨g,l⟩:=po_got d;simp only;generalize dS (dL c) m x.p=r at*;split
  ·exact⟨b,X.at',by show 0<=x.steps+1/\x.steps+1<=((n+1:Nat):Int);omega,λ_=>d,X.slot,X.root,X.pt⟩
  ·split
   ·exact⟨b,X.at',by show 0<=x.steps+1/\x.steps+1<=((n+1:Nat):Int);omega,λ_=>d,X.slot,X.root,λh=>(by cases h)⟩
   ·rename_i o;have j:=inS_getD g (i:=0) dy;exact⟨b,by show 1<=2;omega,by show 0<=x.steps+1/\x.steps+1<=((n+1:Nat):Int);omega,λh=>(by cases h),λ_=>j,X.root,λ_ _ h=>(by cases h)⟩
 rw[bY a0];by_cases e:x.at'=1
 ·rw[bX e];exact⟨M,by show 2<=2;omega,by show 0<=x.steps+1/\x.steps+1<=((n+1:Nat):Int);omega,λh=>(by cases h),λ_=>X.slot a0,(rt_bd (iF M.ok.u _)).1,λ_ _ h=>(by cases h)⟩
 ·rw[bY e];exact⟨M.setRt _ (by show(1:Int)<=_;have:=N.b2;omega),X.at',by show 0<=x.steps+1/\x.steps+1<=((n+1:Nat):Int);omega,λh=>absurd h a0,λ_=>X.slot a0,X.root,λh=>(by cases h)⟩
structure EdI(c:cP)(n:Nat)(e:EdV):Prop where
 at':e.at'<=1
 slot:0<=e.slot/\e.slot<cS c
 steps:0<=e.steps/\e.steps<=n
 old:e.at'=1->tk e.old/\(bd e.old).mark<=cC c+1
 chunk: -1<=e.chunk/\e.chunk<cC c
theorem EdI.ok{e:EdV}(X:EdI c n e)(a:n<=1000000000):EdOk c e:=⟨X.at',X.slot,by have:=X.steps;omega,λh=>(X.old h).1⟩
theorem chunk_rng{r:RtV}(h:r.mark<=cC c+1): -1<=et r/\et r<cC c:=by
 unfold et;split<;>constructor<;>omega
theorem mem_rt(M:iC c m){a:Int}(h:0<=a/\a<cS c):(bd (di m (iS c a.toNat))).mark<=cC c+1:=M.rt _ dy
theorem ed_inv{e:EdV}(N:gM c)(M:iC c m)(X:EdI c n e):iC c (fG c m e).1/\EdI c (n+1) (fG c m e).2/\(fG c m e).2.slot=e.slot:=by
 have j:=X.steps;have a:0<=e.steps+1/\e.steps+1<=((n+1:Nat):Int):=dy;unfold fG;by_cases d:e.done=true
 ·have b:0<=e.steps/\e.steps<=((n+1:Nat):Int):=dy;rw[bX d];exact⟨M,⟨X.at',X.slot,b,X.old,X.chunk⟩,rfl⟩
 rw[bY d];by_cases a0:e.at'=0
 ·rw[bX a0];have f:=iF M.ok.u (iS c e.slot.toNat);split
  ·exact⟨M,⟨cy _,X.slot,a,λ_=>⟨f,mem_rt M X.slot⟩,X.chunk⟩,rfl⟩
  ·exact⟨M,⟨cy _,X.slot,a,λ_=>⟨f,mem_rt M X.slot⟩,X.chunk⟩,rfl⟩
 rw[bY a0];have g:e.at'=1:=by have:=X.at';omega
 obtain⟨k,i⟩:=X.old g;split
 ·exact⟨M.setRt _ (by show(0:Int)<=_;omega),⟨cX _,X.slot,a,λh=>(by cases h),chunk_rng i⟩,rfl⟩
 ·exact⟨M,⟨cX _,X.slot,a,λh=>(by cases h),X.chunk⟩,rfl⟩
structure WaI(c:cP)(x:WaV):Prop where
 n:x.done=false->1<=x.l.length
 m:x.l.length<=cC c
 l:tC (bP c) x.l
theorem WaI.ok{x:WaV}(N:gM c)(X:WaI c x):WaOk c x:=⟨X.n,by have:=X.m;have:=N.b2;omega,X.l⟩
theorem wa_inv{x:WaV}(M:iC c m)(X:WaI c x):WaI c (ir c m x):=by
 unfold ir;by_cases b:x.done=true
 ·rw[bX b];exact X
 rw[bY b];have hb:=bel_rng (bP c) (iF M.ok.u (aLk c (x.l.getD (x.l.length-1) 0).toNat));generalize gJ (bP c) (di m (aLk c (x.l.getD (x.l.length-1) 0).toNat))=d at*;have f:=X.m;split
 ·exact⟨λh=>(by cases h),X.m,X.l⟩
 ·rename_i h;have g:0<=d:=by
   by_cases a:d<0
   ·exact absurd (.inl a) h
   ·omega
  have i:x.l.length≠cC c:=λa=>h (.inr a);refine⟨λ_=>?_,?_,qU X.l λy e=>by rw[dh.1 e];omega⟩
  ·show 1<=(x.l++ [d]).length;rw[cJ];show 1<=_+1;omega
  ·show(x.l++ [d]).length<=cC c;rw[cJ];show x.l.length+1<=_;omega
structure FrI(c:cP)(n:Nat)(f:FrV):Prop where
 at':f.at'<=4
 steps:0<=f.steps/\f.steps<=n
 slot:0<=f.e.slot/\f.e.slot<cS c
 e:f.at'=0->EdI c n f.e
 ch:f.at'=1->0<=f.e.chunk/\f.e.chunk<cC c
 k:f.at'=2->WaI c f.k
 p:f.at'=3->tE (dL c) f.b
 g:f.at'=4->tE (bP c) f.g.p
theorem FrI.ok{f:FrV}(N:gM c)(X:FrI c n f)(a:n<=1000000000):FrOk c f:=⟨X.at',by have:=X.steps;omega,λh=>(X.e h).ok a,λh=>(X.k h).ok N,X.p,X.g⟩
theorem frI_new{slot gen:Int}(h:0<=slot/\slot<cS c):FrI c 0 (tT slot gen):=
 ⟨cX _,⟨dj _,dj _⟩,h,λ_=>⟨cX _,h,⟨dj _,dj _⟩,λh=>by(cases h),by show -1<=(-1:Int)/\(-1:Int)<_;omega⟩,λh=>by(cases h),λh=>by(cases h),λh=>by(cases h),λh=>by(cases h)⟩
theorem frI_back{f:FrV}(b:0<=f.steps/\f.steps<=n)(a:0<=f.e.slot/\f.e.slot<cS c):FrI c n (sN f):=
 ⟨by show 3<=4;omega,b,a,λh=>by(cases h),λh=>by(cases h),λh=>by(cases h),λ_=>pu_new (λx d=>by rw[dh.1 d];exact a) (by show 1<=100000;omega),λh=>by(cases h)⟩
theorem fr_inv{f0:FrV}(N:gM c)(M:iC c m)(U:pA c B su)(C:B<=90000)(X:FrI c n f0):iC c (eD c m su f0).1/\pA c (B+cC c) (eD c m su f0).2.1/\FrI c (n+1) (eD c m su f0).2.2:=by
 have D:=X.steps;have a:0<=f0.steps+1/\f0.steps+1<=((n+1:Nat):Int):=dy;have f:=U.mono (Nat.le_add_right B (cC c));have mono:FrI c (n+1) f0:=⟨X.at',dy,X.slot,λh=>by have:=X.e h;exact⟨this.at',this.slot,by have:=this.steps;omega,this.old,this.chunk⟩,X.ch,X.k,X.p,X.g⟩
 unfold eD;by_cases u:f0.done=true
 ·rw[bX u];exact⟨M,f,mono⟩
 rw[bY u];simp only;by_cases a0:f0.at'=0
 ·rw[bX a0];obtain⟨i,d,E⟩:=ed_inv N M (X.e a0);generalize fG c m f0.e=r at*;split
  ·exact⟨i,f,⟨X.at',a,d.slot,λ_=>d,λh=>absurd (h.symm.trans a0) dz,λh=>absurd (h.symm.trans a0) dz,λh=>absurd (h.symm.trans a0) dz,λh=>absurd (h.symm.trans a0) dz⟩⟩
  ·refine⟨i,f,?_⟩;split
   ·exact⟨X.at',a,d.slot,λ_=>d,λh=>absurd (h.symm.trans a0) dz,λh=>absurd (h.symm.trans a0) dz,λh=>absurd (h.symm.trans a0) dz,λh=>absurd (h.symm.trans a0) dz⟩
   ·split
    ·rename_i s;exact⟨by show 1<=4;omega,a,d.slot,λh=>by(cases h),λ_=>⟨s,d.chunk.2⟩,λh=>by(cases h),λh=>by(cases h),λh=>by(cases h)⟩
    ·exact frI_back a d.slot
 rw[bY a0];by_cases o:f0.at'=1
 ·rw[bX o];have s:=X.ch o;exact⟨M,f,⟨by show 2<=4;omega,a,X.slot,λh=>by(cases h),λh=>by(cases h),λ_=>⟨λ_=>cy _,N.b2.1,λx v=>by rw[dh.1 v];exact s⟩,λh=>by(cases h),λh=>by(cases h)⟩⟩
 rw[bY o];by_cases j:f0.at'=2
 ·rw[bX j];have t:=wa_inv M (X.k j);generalize ir c m f0.k=w at*;split
  ·exact⟨M,(su_retire U t.l f0.tag).mono (by have:=t.m;omega),frI_back a X.slot⟩
  ·exact⟨M,f,⟨X.at',a,X.slot,λh=>absurd h a0,λh=>absurd h o,λ_=>t,λh=>absurd (h.symm.trans j) dz,λh=>absurd (h.symm.trans j) dz⟩⟩
 rw[bY j];by_cases q:f0.at'=3
 ·rw[bX q];obtain⟨i,d,_⟩:=pu_inv (spareJ N) M (X.p q);generalize eX (dL c) m f0.b=r at*;obtain⟨y,z,F⟩:=su_over U c.2.2.2.2.1;split
  ·exact⟨i,y.mono (Nat.le_add_right B (cC c)),⟨by show 4<=4;omega,a,X.slot,λh=>by(cases h),λh=>by(cases h),λh=>by(cases h),λh=>by(cases h),λ_=>gi_new z dy⟩⟩
  ·exact⟨i,f,⟨X.at',a,X.slot,λh=>absurd h a0,λh=>absurd h o,λh=>absurd h j,λ_=>d,λh=>absurd (h.symm.trans q) dz⟩⟩
 rw[bY q];have A:f0.at'=4:=by have:=X.at';omega
 obtain⟨i,d⟩:=gi_inv N M (X.g A);exact⟨i,f,⟨X.at',a,X.slot,λh=>absurd h a0,λh=>absurd h o,λh=>absurd h j,λh=>absurd h q,λ_=>d⟩⟩
theorem ad_inv{a:AdV}(N:gM c)(M:iC c m)(X:AdOk c a):iC c (fH c m a).1/\((fH c m a).2.done=false->AdOk c (fH c m a).2):=by
 have e:=iF M.ok.u 2;unfold fH;by_cases b:a.done=true
 ·rw[bX b];exact⟨M,λ_=>X⟩
 rw[bY b];by_cases a0:a.at'=0
 ·rw[bX a0];exact⟨M,λ_=>⟨by show a.at'+1<=cW c+1;omega,e⟩⟩
 rw[bY a0];by_cases d:a.at'<=cW c
 ·rw[bX d];exact⟨M,λ_=>⟨by show a.at'+1<=cW c+1;omega,X.old⟩⟩
 rw[bY d];split
 ·exact⟨M.set rt_2 (wrapU _),λh=>(by cases h)⟩
 ·exact⟨M,λh=>(by cases h)⟩
structure CoI(c:cP)(x:CoV):Prop where
 at':x.at'<=2
 a:x.at'=0->AdOk c x.a
 g:x.at'=2->tE (bP c) x.g.p
theorem CoI.ok{x:CoV}(X:CoI c x):CoOk c x:=⟨X.at',X.a,X.g⟩
theorem coI_new:CoI c coNew:=⟨cX _,λ_=>⟨cX _,⟨dj _,by show(0:Int)<=_;omega⟩⟩,λh=>(by cases h)⟩
theorem co_inv{x:CoV}(N:gM c)(M:iC c m)(U:pA c B su)(j:B<=90000)(X:CoI c x):iC c (ft c m su x).1/\pA c B (ft c m su x).2.1/\CoI c (ft c m su x).2.2:=by
 unfold ft;by_cases e:x.done=true
 ·rw[bX e];exact⟨M,U,X⟩
 rw[bY e];by_cases a0:x.at'=0
 ·rw[bX a0];obtain⟨b,d⟩:=ad_inv N M (X.a a0);simp only;generalize fH c m x.a=r at*;refine⟨b,U,?_⟩;split
  ·exact⟨by show 1<=2;omega,λh=>by(cases h),λh=>by(cases h)⟩
  ·rename_i h;exact⟨X.at',λ_=>d (by simpa using h),λh=>absurd (h.symm.trans a0) dz⟩
 rw[bY a0];by_cases f:x.at'=1
 ·rw[bX f];obtain⟨b,d,k⟩:=su_all (su_ready U (fP (di m 2)));exact⟨M,b,⟨by show 2<=2;omega,λh=>by(cases h),λ_=>gi_new d dy⟩⟩
 ·rw[bY f];have i:x.at'=2:=by have:=X.at';omega
  obtain⟨b,d⟩:=gi_inv N M (X.g i);exact⟨b,U,⟨X.at',λh=>absurd h a0,λ_=>d⟩⟩
end
section
variable{c:cP}{m m':bI}{s:iP}{p:PuV}{l:List Int}{B n:Nat}{su:lO}{a:AlV}
structure AlI(c:cP)(n:Nat)(a:AlV):Prop where
 at':a.at'<=6
 slot:0<=a.slot/\a.slot<cS c
 steps:0<=a.steps/\a.steps<=n
 need:0<=a.need/\a.need<=10000
 held: -1<=a.held/\a.held<cC c
 h3:3<=a.at'->a.at'<=5->0<=a.held
 zero:a.at'=3->0<=a.zero/\a.zero<cK c
 old:tk a.old/\(bd a.old).mark<=cC c+1
 t:TkI c a.t
 g:a.at'=6->tE (bP c) a.g.p
 n:1<=a.n/\a.n<=1024
theorem AlI.ok(A:AlI c n a)(b:n<=1000000000):AlOk c a:=⟨A.at',A.slot,by have:=A.steps;omega,A.need,A.held,A.h3,A.zero,A.old.1,λ_=>A.t.ok,A.g⟩
theorem AlI.mono{b:Nat}(A:AlI c n a)(h:n<=b):AlI c b a:=⟨A.at',A.slot,by have:=A.steps;omega,A.need,A.held,A.h3,A.zero,A.old,A.t,A.g,A.n⟩
theorem get0_mark:(bd 0).mark=0:=rfl
theorem alI_new{slot gen k:Int}(h:0<=slot/\slot<cS c)(a:1<=k/\k<=1024):AlI c 0 (alNew slot gen k):=
 ⟨cX _,h,⟨dj _,dj _⟩,⟨dj _,by show(0:Int)<=10000;omega⟩,by show -1<=(-1:Int)/\(-1:Int)<_;omega,λh=>absurd h (by show¬3<=0;omega),λh=>(by cases h),⟨⟨dj _,by show(0:Int)<=_;omega⟩,by show(bd 0).mark<=_;rw[get0_mark];omega⟩,tk0I,λh=>(by cases h),a⟩
theorem al_closes(U:pA c B su)(i:B<=90000)(A:AlI c n a)(most:Int):pA c (B+1) (gY most su a).1/\AlI c n (gY most su a).2:=by
 have b:pA c (B+1) (if 0<=a.held then qP su [a.held]else su):=by
  have d:=A.held;split
  ·exact su_give U λx e=>by rw[dh.1 e];exact⟨dy,d.2⟩
  ·exact U.mono (Nat.le_succ B)
 unfold gY;simp only;generalize (if 0<=a.held then qP su [a.held]else su)=j at*;obtain⟨f,g,k⟩:=su_over b most;exact⟨f,⟨by show 6<=6;omega,A.slot,A.steps,A.need,by show -1<=(-1:Int)/\(-1:Int)<_;omega,λ_ h=>absurd h (by show¬6<=5;omega),λh=>(by cases h),A.old,A.t,λ_=>gi_new g dy,A.n⟩⟩
theorem al_fine(U:pA c B su)(b:B<=90000)(A:AlI c n a)(most ch off:Int):pA c (B+1) (pr most su a ch off).1/\AlI c n (pr most su a ch off).2:=by
 unfold pr;exact al_closes U b (a:={a with h:=(a.slot,a.gen,ch,off,a.n),point:=a.steps}) ⟨A.at',A.slot,A.steps,A.need,A.held,A.h3,A.zero,A.old,A.t,A.g,A.n⟩ most
theorem al_taken(N:gM c)(A:AlI c n a):AlI c n (mF a):=by
 have d:=N.b3;have b:=A.t.k;unfold mF;split
 ·exact⟨cX _,A.slot,A.steps,A.need,A.held,λh=>absurd h (by show¬3<=0;omega),λh=>(by cases h),A.old,A.t,λh=>(by cases h),A.n⟩
 ·exact⟨by show 3<=6;omega,A.slot,A.steps,A.need,b,λ_ _=>by show 0<=a.t.chunk;omega,λ_=>by show 0<=(0:Int)/\(0:Int)<cK c;omega,A.old,A.t,λh=>(by cases h),A.n⟩
theorem al_seen(N:gM c)(U:pA c B su)(d:B<=90000)(A:AlI c n a)(l:a.at'=0):pA c (B+1) (mw c su a).1/\AlI c n (mw c su a).2:=by
 have m:=round_ge (cls:=(bd a.old).cls) A.n.1 A.n.2;have o:=A.n;have b:AlI c n {a with need:=bW (bd a.old).cls a.n}:=⟨A.at',A.slot,A.steps,by show 0<=bW _ _/\bW _ _<=10000;omega,A.held,A.h3,A.zero,A.old,A.t,A.g,A.n⟩
 unfold mw;split
 ·exact al_closes U d (a:={a with code:=3,point:=a.steps}) ⟨A.at',A.slot,A.steps,A.need,A.held,A.h3,A.zero,A.old,A.t,A.g,A.n⟩ _
 simp only;generalize bW (bd a.old).cls a.n=e at*;split
 ·exact⟨U.mono (Nat.le_succ B),⟨by show 1<=6;omega,b.slot,b.steps,b.need,b.held,λh=>absurd h (by show¬3<=1;omega),λh=>(by cases h),b.old,b.t,λh=>(by cases h),b.n⟩⟩
 split
 ·rename_i j;exact⟨U.mono (Nat.le_succ B),⟨by show 4<=6;omega,b.slot,b.steps,b.need,b.held,λ_ _=>j,λh=>(by cases h),b.old,b.t,λh=>(by cases h),b.n⟩⟩
 split
 ·exact al_closes U d (a:={a with need:=e,code:=6,point:=a.steps}) ⟨b.at',b.slot,b.steps,b.need,b.held,b.h3,b.zero,b.old,b.t,b.g,b.n⟩ _
 ·obtain⟨f,k⟩:=tknew_inv U;generalize kr c su=r at*;have i:AlI c n {a with need:=e,t:=r.2,at':=2}:=⟨by show 2<=6;omega,b.slot,b.steps,b.need,b.held,λh=>absurd h (by show¬3<=2;omega),λh=>(by cases h),b.old,k,λh=>(by cases h),b.n⟩
  split
  ·exact⟨f.mono (Nat.le_succ B),al_taken N i⟩
  ·exact⟨f.mono (Nat.le_succ B),i⟩
theorem al_inv(N:gM c)(M:iC c m)(U:pA c B su)(k:B<=90000)(b:AlI c n a):iC c (eC c m su a).1/\pA c (B+9) (eC c m su a).2.1/\AlI c (n+1) (eC c m su a).2.2:=by
 have I:=b.steps;have l:0<=a.steps+1/\a.steps+1<=((n+1:Nat):Int):=dy;have e:=U.mono (Nat.le_add_right B 9);have o:B+1<=B+9:=dy;have J:=N.b3;unfold eC;by_cases r:a.done=true
 ·rw[bX r];exact⟨M,e,b.mono (Nat.le_succ n)⟩
 rw[bY r];simp only;have A:AlI c (n+1) {a with steps:=a.steps+1}:=⟨b.at',b.slot,l,b.need,b.held,b.h3,b.zero,b.old,b.t,b.g,b.n⟩
 have y:=iF M.ok.u (iS c a.slot.toNat);by_cases a0:a.at'=0
 ·rw[bX a0];obtain⟨f,i⟩:=al_seen N U k (a:={a with steps:=a.steps+1,old:=di m (iS c a.slot.toNat)}) ⟨A.at',A.slot,A.steps,A.need,A.held,A.h3,A.zero,⟨y,mem_rt M b.slot⟩,A.t,A.g,A.n⟩ a0;exact⟨M,f.mono o,i⟩
 rw[bY a0];have d:AlI c (n+1) {a with steps:=a.steps+1,at':=0}:=⟨cX _,A.slot,A.steps,A.need,A.held,λh=>absurd h (by show¬3<=0;omega),λh=>(by cases h),A.old,A.t,λh=>(by cases h),A.n⟩
 by_cases s:a.at'=1
 ·rw[bX s];split
  ·obtain⟨f,i⟩:=al_fine U k d c.2.2.2.2.1 (et (bd a.old)) (bd a.old).off;exact⟨M.setRt _ b.old.2,f.mono o,i⟩
  ·exact⟨M,e,d⟩
 rw[bY s];by_cases v:a.at'=2
 ·rw[bX v];obtain⟨z,C,D⟩:=tk_inv N M U b.t;generalize fg c m su a.t=q at*;have At:AlI c (n+1) {a with steps:=a.steps+1,t:=q.2.2}:=⟨A.at',A.slot,A.steps,A.need,A.held,A.h3,A.zero,A.old,D,A.g,A.n⟩
  refine⟨z,C.mono dy,?_⟩;split
  ·exact al_taken N At
  ·exact At
 rw[bY v];by_cases p:a.at'=3
 ·rw[bX p];have K:=b.zero p;have j:=b.h3 dy dy;refine⟨M.set (rt_wd _ _) ⟨dj _,by show(0:Int)<=_;omega⟩,e,?_⟩;have L:=N.n3;split
  ·exact⟨by show 4<=6;omega,A.slot,A.steps,A.need,A.held,λ_ _=>j,λh=>(by cases h),A.old,A.t,λh=>(by cases h),A.n⟩
  ·rename_i E;exact⟨A.at',A.slot,A.steps,A.need,A.held,A.h3,λ_=>by show 0<=a.zero+1/\a.zero+1<cK c;omega,A.old,A.t,A.g,A.n⟩
 rw[bY p];by_cases w:a.at'=4
 ·rw[bX w];have j:=b.h3 dy dy;have O:=chunk_rng b.old.2;have:=N.b2;exact⟨M.set (rt_lk _) ⟨dy,dy⟩,e,⟨by show 5<=6;omega,A.slot,A.steps,A.need,A.held,λ_ _=>j,λh=>(by cases h),A.old,A.t,λh=>(by cases h),A.n⟩⟩
 rw[bY w];by_cases x:a.at'=5
 ·rw[bX x];have j:=b.held;split
  ·obtain⟨f,i⟩:=al_fine U k (a:={a with steps:=a.steps+1,at':=0,held:= -1}) ⟨cX _,A.slot,A.steps,A.need,by show -1<=(-1:Int)/\(-1:Int)<_;omega,λh=>absurd h (by show¬3<=0;omega),λh=>(by cases h),A.old,A.t,λh=>(by cases h),A.n⟩ c.2.2.2.2.1 a.held 0;exact⟨M.setRt _ (by show a.held+2<=_;omega),f.mono o,i⟩
  ·exact⟨M,e,d⟩
 rw[bY x];have F:a.at'=6:=by have:=b.at';omega
 obtain⟨G,H⟩:=gi_inv N M (b.g F);exact⟨G,e,⟨A.at',A.slot,A.steps,A.need,A.held,A.h3,A.zero,A.old,A.t,λ_=>H,A.n⟩⟩
end
section
variable{c:cP}{m m':bI}{B n id:Nat}{su:lO}{k:jR}{op:ez}{x:eF}
def McI(c:cP)(n:Nat)(k:jR):McV->Prop
 | .create x=>k.o.1=1/\CrI c n x/\k.point=x.point/\x.done=false
 | .alloc x=>k.o.1=2/\AlI c n x
 | .enter x=>k.o.1=3/\x.done=false
 | .leave d=>k.o.1=4/\d=false
 | .look x=>(k.o.1=5\/k.o.1=12)/\LkOk c x/\x.done=false
 | .free x=>k.o.1=10/\FrI c n x
 | .collect x=>k.o.1=11/\CoI c x
 | .none=>(6<=k.o.1/\k.o.1<=9)/\(0<=k.h.2.2.1/\k.h.2.2.1<cC c)/\(0<=k.h.2.2.2.1+k.o.2.2.2.1/\k.h.2.2.2.1+k.o.2.2.2.1<cK c)
abbrev grow(c:cP):Nat:=cC c+9
def opU(o:ez):Prop:=tk o.2.2.2.2.1/\tk o.2.2.2.2.2
structure tu(c:cP)(n:Nat)(k:jR):Prop where
 depth:0<=k.depth/\k.depth<=15
 holds:k.holds.length<=8
 steps:0<=k.steps/\k.steps<=n
 su:pA c (n*grow c) k.su
 mc:k.busy=true->McI c n k k.mc
 o:opU k.o
theorem McI.ok{y:McV}(N:gM c)(a:n<=1000000000)(b:B<=90000)(U:pA c B k.su)(h:McI c n k y):McOk c m k y:=by
 cases y with
 |create x=>exact⟨h.1,h.2.1.ok a⟩
 |alloc x=>exact⟨h.1,h.2.ok a⟩
 |enter x=>exact h
 |leave x=>exact h
 |look x=>exact h
 |free x=>exact⟨h.1,h.2.ok N a⟩
 |collect x=>exact⟨h.1,h.2.ok,by have:=(su_ready U (fP (di m 2))).n;omega⟩
 |none=>exact h
theorem tu.ok(N:gM c)(b:n<=1000000000)(a:n*grow c<=90000)(K:tu c n k):WkOk c m k:=
 ⟨K.depth,by have:=K.holds;omega,by have:=K.steps;omega,(K.su.ok a).1,(K.su.ok a).2,λhb=>(K.mc hb).ok N b a K.su⟩
theorem tu.wm(N:gM c)(a:n<=1000000000)(b:n*grow c<=90000)(M:iC c m)(K:tu c n k):WmOk c m k:=
 ⟨M.ok,λhb=>(K.mc hb).ok N a b K.su,λhb hp=>by
  have:=K.mc hb;generalize k.mc=y at this⊢;cases y with
  |create x=>exact this.2.1.slot (this.2.1.pt this.2.2.2 (by rw[<- this.2.2.1];exact hp))
  |_=>trivial⟩
theorem wkI_new:tu c 0 aI:=⟨by show 0<=(0:Int)/\(0:Int)<=15;omega,cX _,⟨dj _,dj _⟩,su_new.mono (cX _),λh=>(by cases h),⟨⟨dj _,by show(0:Int)<=_;omega⟩,dj _,by show(0:Int)<=_;omega⟩⟩
theorem McI.mono{a:Nat}{y:McV}(h:McI c n k y)(b:n<=a):McI c a k y:=by
 cases y with
 |create x=>exact⟨h.1,h.2.1.mono b,h.2.2⟩
 |alloc x=>exact⟨h.1,h.2.mono b⟩
 |enter x=>exact h
 |leave x=>exact h
 |look x=>exact h
 |free x=>exact⟨h.1,h.2.at',by have:=h.2.steps;omega,h.2.slot,λe=>by have:=h.2.e e;exact⟨this.at',this.slot,by have:=this.steps;omega,this.old,this.chunk⟩,h.2.ch,h.2.k,h.2.p,h.2.g⟩
 |collect x=>exact h
 |none=>exact h
theorem tu.mono{a:Nat}(K:tu c n k)(h:n<=a):tu c a k:=⟨K.depth,K.holds,by have:=K.steps;omega,K.su.mono (Nat.mul_le_mul_right _ h),λhb=>(K.mc hb).mono h,K.o⟩
theorem tu.ends(a:0<=k.depth/\k.depth<=15)(b:k.holds.length<=8)(d:0<=k.steps/\k.steps<=n)(e:pA c (n*grow c) k.su)(f:opU k.o)(r:jo):tu c n (cI k r):=⟨a,b,d,e,λh=>(by cases h),f⟩
theorem gPin_rng(h:0<=k.depth/\k.depth<=15):(0<=(kt k).2.depth/\(kt k).2.depth<=15)/\(kt k).2.holds=k.holds/\(kt k).2.steps=k.steps/\(kt k).2.su=k.su/\(kt k).2.o=k.o:=by
 unfold kt;split
 ·exact⟨h,rfl,rfl,rfl,rfl⟩
 ·exact⟨by show 0<=k.depth+1/\k.depth+1<=15;omega,rfl,rfl,rfl,rfl⟩
theorem gUnpin_rng(h:0<=k.depth/\k.depth<=15)(a:k.holds.length<=8):(0<=(dP k).2.depth/\(dP k).2.depth<=15)/\(dP k).2.holds.length<=8/\(dP k).2.steps=k.steps/\(dP k).2.su=k.su/\(dP k).2.o=k.o:=by
 unfold dP;split
 ·exact⟨h,a,rfl,rfl,rfl⟩
 ·simp only;split
  ·exact⟨by show 0<=k.depth-1/\k.depth-1<=15;omega,cX _,rfl,rfl,rfl⟩
  ·exact⟨by show 0<=k.depth-1/\k.depth-1<=15;omega,a,rfl,rfl,rfl⟩
theorem gHold_rng(c:k.holds.length<=8)(a b:Int):(kV k a b).depth=k.depth/\(kV k a b).holds.length<=8/\(kV k a b).steps=k.steps/\(kV k a b).su=k.su/\(kV k a b).o=k.o:=by
 unfold kV;split
 ·exact⟨rfl,c,rfl,rfl,rfl⟩
 ·rename_i h;have:k.holds.length≠8:=λe=>h (.inr (.inr e));exact⟨rfl,by show(k.holds++ [(a,b)]).length<=8;rw[cJ];show k.holds.length+1<=8;omega,rfl,rfl,rfl⟩
theorem pc(N:gM c)(h:iQ c x=true):0<=x.1/\x.1<cS c:=by
 unfold iQ at h;simp only[de,decide_eq_true_eq]at h;have:=N.n4;omega
theorem object_slot(N:gM c)(h:kD c x=true):(0<=x.1/\x.1<cS c)/\(0<=x.2.2.1/\x.2.2.1<cC c)/\0<=x.2.2.2.1/\x.2.2.2.1<=cK c-x.2.2.2.2:=by
 unfold kD at h;simp only[de,decide_eq_true_eq]at h;have:=N.n4;have:=N.n2;have:=N.n3;omega
theorem may_rng(h:jz op=true):(1<=op.1/\op.1<=12)/\0<=op.2.2.2.1:=by
 unfold jz at h;simp only[decide_eq_true_eq]at h;exact⟨h.1,h.2.2.2.1.1⟩
theorem wk_start(N:gM c)(K:tu c n k)(f:opU op):tu c n (jj c k op x):=by
 unfold jj;split
 ·exact K
 rename_i l;have l:jz op=true:=by
  cases h:jz op with
  |true=>rfl
  |false=>exact absurd (.inr h) l
 obtain⟨D,E⟩:=may_rng l;have g:(0:Int)<=0/\(0:Int)<=n:=dy;have F:=N.b3;have G:=N.n3;split
 ·exact tu.ends (k:={k with busy:=true,o:=op,h:=x,steps:=0,point:=0,back:=0}) K.depth K.holds g K.su f _
 rename_i a;have a:jS c op x=true:=by simpa using a
 have base:∀y:McV,McI c n {k with busy:=true,o:=op,h:=x,steps:=0,point:=0,back:=0} y->tu c n {k with busy:=true,o:=op,h:=x,steps:=0,point:=0,back:=0,mc:=y}:=λy z=>⟨K.depth,K.holds,g,K.su,λ_=>z,f⟩
 have fin:∀r,tu c n (cI {k with busy:=true,o:=op,h:=x,steps:=0,point:=0,back:=0} r):=λr=>tu.ends (k:={k with busy:=true,o:=op,h:=x,steps:=0,point:=0,back:=0}) K.depth K.holds g K.su f r;unfold jT;by_cases k1:op.1=1
 ·rw[bX k1];exact base _ ⟨k1,(crI_new _).mono (cX n),rfl,rfl⟩
 rw[bY k1];by_cases k2:op.1=2
 ·rw[bX k2];have hr:iQ c x=true:=by unfold jS at a;rw[k2]at a;exact a
  split
  ·exact fin _
  ·rename_i hb;exact base _ ⟨k2,(alI_new (pc N hr) dy).mono (cX n)⟩
 rw[bY k2];by_cases m:op.1=3
 ·rw[bX m];split
  ·exact base _ ⟨m,rfl⟩
  ·obtain⟨p,q,s,t,u⟩:=gPin_rng (k:={k with busy:=true,o:=op,h:=x,steps:=0,point:=0,back:=0}) K.depth;exact tu.ends p (by rw[q];exact K.holds) (by rw[s];exact g) (by rw[t];exact K.su) (by rw[u];exact f) _
 rw[bY m];by_cases v:op.1=4
 ·rw[bX v];split
  ·exact base _ ⟨v,rfl⟩
  ·obtain⟨p,q,s,t,u⟩:=gUnpin_rng (k:={k with busy:=true,o:=op,h:=x,steps:=0,point:=0,back:=0}) K.depth K.holds;exact tu.ends p q (by rw[s];exact g) (by rw[t];exact K.su) (by rw[u];exact f) _
 rw[bY v];by_cases j:op.1=5
 ·rw[bX j];have hr:iQ c x=true\/kD c x=true:=by unfold jS at a;rw[j]at a;simpa [gH]using a
  have w:0<=x.1/\x.1<cS c:=by
   rcases hr with hr|hr
   ·exact pc N hr
   ·exact(object_slot N hr).1
  split
  ·exact fin _
  split
  ·exact fin _
  split
  ·exact fin _
  ·exact base _ ⟨.inl j,⟨w⟩,rfl⟩
 rw[bY j];by_cases b:op.1=10
 ·rw[bX b];have hr:iQ c x=true:=by unfold jS at a;rw[b]at a;exact a
  have A:FrI c n (tT x.1 x.2.1):=(McI.mono (k:={k with o:=op}) (y:= .free (tT x.1 x.2.1)) (n:=0) ⟨b,frI_new (pc N hr)⟩ (cX n)).2;exact base _ ⟨b,A⟩
 rw[bY b];by_cases e:op.1=11
 ·rw[bX e];exact base _ ⟨e,coI_new⟩
 rw[bY e];by_cases d:op.1=12
 ·rw[bX d];have hr:iQ c x=true:=by unfold jS at a;rw[d]at a;exact a
  exact base _ ⟨.inr d,⟨pc N hr⟩,rfl⟩
 rw[bY d];have i:6<=op.1/\op.1<=9:=dy;have B:gH op.1=2:=by unfold gH;rw[bY dy,bX i]
 have hr:kD c x=true:=by unfold jS at a;rw[B]at a;exact a
 obtain⟨H,C,I,J⟩:=object_slot N hr;split
 ·exact fin _
 split
 ·exact fin _
 ·rename_i L;exact base _ ⟨i,C,by show 0<=x.2.2.2.1+op.2.2.2.1/\x.2.2.2.1+op.2.2.2.1<cK c;omega⟩
end
section
variable{c:cP}{m m':bI}{B n id:Nat}{su:lO}{k:jR}{op:ez}{x:eF}{a:tj}
theorem pinW_u(e:Int):tk (pinW e):=by
 unfold pinW;split
 ·constructor<;>omega
 ·constructor<;>omega
theorem touch_inv(M:iC c m){cell:Nat}(a:qf c cell)(kind:Int){v b:Int}(hv:tk v)(d:tk b):iC c (iy m cell kind v b).1:=by
 unfold iy;split
 ·exact M
 split
 ·exact M.set a hv
 split
 ·exact M.set a (wrapU _)
 split
 ·exact M.set a d
 ·exact M
theorem wk_inv(N:gM c)(M:iC c m)(K:tu c n k)(v:n*grow c<=90000)(s:id<cW c):iC c (aF c id m k).1/\tu c (n+1) (aF c id m k).2:=by
 have A:(n+1)*grow c=n*grow c+(cC c+9):=by rw[Nat.add_mul,Nat.one_mul]
 have B:=K.steps;have a:0<=k.steps+1/\k.steps+1<=((n+1:Nat):Int):=dy;have b:pA c ((n+1)*grow c) k.su:=K.su.mono dy;by_cases hb:k.busy=false
 ·have e:aF c id m k=(m,k):=by rw[aF,bX hb]
  rw[e];exact⟨M,K.mono (Nat.le_succ n)⟩
 have w:k.busy=true:=by simpa using hb
 have f:=K.mc w;unfold aF;rw[bY hb];simp only;generalize C:k.mc=y at f⊢;cases y with
 |create x=>
  simp only;obtain⟨g,i,p,q⟩:=f;obtain⟨j,l⟩:=cr_inv N M i;generalize eL c m x=r at*;refine⟨j,?_⟩;split
  ·exact(by apply tu.ends<;>first|exact K.depth|exact K.holds|exact a|exact b|exact K.o)
  split
  ·exact(by apply tu.ends<;>first|exact K.depth|exact K.holds|exact a|exact b|exact K.o)
  ·rename_i z;exact⟨K.depth,K.holds,a,b,λ_=>⟨g,l,rfl,by simpa using z⟩,K.o⟩
 |alloc x=>
  simp only;obtain⟨g,i⟩:=f;obtain⟨j,l,t⟩:=al_inv N M K.su v i;generalize eC c m k.su x=r at*;have d:pA c ((n+1)*grow c) r.2.1:=l.mono dy;refine⟨j,?_⟩;split
  ·exact(by apply tu.ends<;>first|exact K.depth|exact K.holds|exact a|exact d|exact K.o)
  ·exact⟨K.depth,K.holds,a,d,λ_=>⟨g,t⟩,K.o⟩
 |enter x=>
  simp only;split
  ·exact⟨M,K.depth,K.holds,a,b,λ_=>⟨f.1,rfl⟩,K.o⟩
  ·obtain⟨g,i,p,q,u⟩:=gPin_rng (k:={k with steps:=k.steps+1,mc:= .enter x,point:=2}) K.depth;exact⟨M.set (rt_pin s) (pinW_u _),tu.ends g (by rw[i];exact K.holds) (by rw[p];exact a) (by rw[q];exact b) (by rw[u];exact K.o) _⟩
 |leave x=>
  simp only;obtain⟨g,i,p,q,u⟩:=gUnpin_rng (k:={k with steps:=k.steps+1,mc:= .leave x,point:=1}) K.depth K.holds;exact⟨M.set (rt_pin s) ⟨dj _,by show(0:Int)<=_;omega⟩,tu.ends g i (by rw[p];exact a) (by rw[q];exact b) (by rw[u];exact K.o) _⟩
 |look x=>
  simp only;split
  ·refine⟨M,?_⟩;split
   ·obtain⟨g,i,p,q,u⟩:=gHold_rng (k:={k with steps:=k.steps+1,mc:= .look x,point:=1}) K.holds k.h.1 k.h.2.1;exact tu.ends (by rw[g];exact K.depth) i (by rw[p];exact a) (by rw[q];exact b) (by rw[u];exact K.o) _
   ·exact(by apply tu.ends<;>first|exact K.depth|exact K.holds|exact a|exact b|exact K.o)
  ·exact⟨M,(by apply tu.ends<;>first|exact K.depth|exact K.holds|exact a|exact b|exact K.o)⟩
 |free x=>
  simp only;obtain⟨g,i⟩:=f;obtain⟨j,l,t⟩:=fr_inv N M K.su v i;generalize eD c m k.su x=r at*;have d:pA c ((n+1)*grow c) r.2.1:=l.mono dy;refine⟨j,?_⟩;split
  ·exact(by apply tu.ends<;>first|exact K.depth|exact K.holds|exact a|exact d|exact K.o)
  ·exact⟨K.depth,K.holds,a,d,λ_=>⟨g,t⟩,K.o⟩
 |collect x=>
  simp only;obtain⟨g,i⟩:=f;obtain⟨j,l,t⟩:=co_inv N M K.su v i;generalize ft c m k.su x=r at*;have d:pA c ((n+1)*grow c) r.2.1:=l.mono dy;refine⟨j,?_⟩;split
  ·exact(by apply tu.ends<;>first|exact K.depth|exact K.holds|exact a|exact d|exact K.o)
  ·exact⟨K.depth,K.holds,a,d,λ_=>⟨g,t⟩,K.o⟩
 |none=>
  simp only;exact⟨touch_inv M (rt_wd _ _) _ K.o.1 K.o.2,(by apply tu.ends<;>first|exact K.depth|exact K.holds|exact a|exact b|exact K.o)⟩
structure ArI(c:cP)(n:Nat)(a:tj):Prop where
 m:iC c a.m
 n3:a.ks.length=cW c
 n4:a.at'.length=cW c
 n5:a.open'.length=cW c
 wk:∀i,i<cW c->tu c n (a.ks.getD i aI)
 ops:∀i,(a.ops.getD i []).length<=1000
 opu:∀i,∀o∈a.ops.getD i [],opU o
 at':∀i,i<cW c->0<=a.at'.getD i 0/\a.at'.getD i 0<=(a.ops.getD i []).length
 op:∀i,i<cW c->(a.ks.getD i aI).busy=true->0<=a.open'.getD i 0/\a.open'.getD i 0<a.l.length
 l:a.l.length<=n
 h:a.h.length<=n
 steps:0<=a.steps/\a.steps<=n
theorem ArI.ok(N:gM c)(e:n<=90000)(b:n*grow c<=90000)(A:ArI c n a):ArOk c a:=
 ⟨A.m.ok,λi d=>(A.wk i d).ok N dy b,λi _=>by have:=A.ops i;omega,A.at',A.op,by have:=A.l;omega,by have:=A.h;omega,by have:=A.steps;omega⟩
theorem ArI.mono{b:Nat}(A:ArI c n a)(h:n<=b):ArI c b a:=⟨A.m,A.n3,A.n4,A.n5,λi d=>(A.wk i d).mono h,A.ops,A.opu,A.at',A.op,by have:=A.l;omega,by have:=A.h;omega,by have:=A.steps;omega⟩
theorem ar_begin(N:gM c)(A:ArI c n a){i:Nat}(k:i<cW c)(b:eE a i<(a.ops.getD i []).length):ArI c (n+1) (jN c a i)/\(0<=(jN c a i).open'.getD i 0/\(jN c a i).open'.getD i 0<(jN c a i).l.length):=by
 have p:i<a.ks.length:=by rw[A.n3];exact k
 have r:i<a.at'.length:=by rw[A.n4];exact k
 have hp:i<a.open'.length:=by rw[A.n5];exact k
 obtain⟨op,d⟩:∃op,op=(a.ops.getD i [])[eE a i]:=⟨_,rfl⟩
 have f:(a.ops.getD i []).getD (eE a i) (0,0,0,0,0,0)=op:=by rw[cu,bZ b,d];rfl
 have o:opU op:=A.opu i op (by rw[d];exact List.getElem_mem b);obtain⟨s,es⟩:∃s:dR,s=⟨i,eE a i,op,a.steps,-1,-1,-1,lV⟩:=⟨_,rfl⟩
 have t:jN c a i={arB0 a i s with h:=a.h++ [bO (a.l++ [s]) s],ks:=a.ks.set i (jj c (a.ks.getD i aI) op (bO (a.l++ [s]) s))}:=by
  unfold jN;simp only[f,<-es]
 have u:=A.l;have v:=A.h;have w:=A.steps;rw[t];have q:0<=(a.open'.set i (a.l.length:Int)).getD i 0/\(a.open'.set i (a.l.length:Int)).getD i 0<((a.l++ [s]).length:Int):=by
  rw[iX _ hp,bX rfl,cJ];show 0<=(a.l.length:Int)/\(a.l.length:Int)<((a.l.length+1:Nat):Int);omega
 refine⟨⟨A.m,by rw[cE];exact A.n3,by rw[cE];exact A.n4,by rw[cE];exact A.n5,λj g=>?_,A.ops,A.opu,λj g=>?_,λj g hb=>?_,?_,?_,by show 0<=a.steps/\a.steps<=((n+1:Nat):Int);omega⟩,q⟩
 ·show tu c (n+1) ((a.ks.set i _).getD j aI);rw[iX _ p];split
  ·exact(wk_start N (A.wk i k) o).mono (Nat.le_succ n)
  ·exact(A.wk j g).mono (Nat.le_succ n)
 ·show 0<=(a.at'.set i _).getD j 0/\(a.at'.set i _).getD j 0<=((a.ops.getD j []).length:Int)
  rw[iX _ r];split
  ·rename_i e;subst e;omega
  ·exact A.at' j g
 ·show 0<=(a.open'.set i (a.l.length:Int)).getD j 0/\(a.open'.set i (a.l.length:Int)).getD j 0<((a.l++ [s]).length:Int);have hb:((a.ks.set i (jj c (a.ks.getD i aI) op (bO (a.l++ [s]) s))).getD j aI).busy=true:=hb;by_cases e:j=i
  ·subst e;exact q
  ·rw[iX _ p,bY e]at hb;rw[iX _ hp,bY e,cJ];have:=A.op j g hb;show 0<=a.open'.getD j 0/\a.open'.getD j 0<((a.l.length+1:Nat):Int);omega
 ·show(a.l++ [s]).length<=n+1;rw[cJ];show a.l.length+1<=n+1;omega
 ·show(a.h++ [bO (a.l++ [s]) s]).length<=n+1;rw[cJ];show a.h.length+1<=n+1;omega
theorem ar_go(N:gM c)(o:n*grow c<=90000)(A:ArI c n a){i:Nat}(f:i<cW c):ArI c (n+1) (arGo c a i):=by
 have k:i<a.ks.length:=by rw[A.n3];exact f
 obtain⟨w1,w2⟩:=wk_inv (id:=i) N A.m (A.wk i f) o f;have p:=A.l;have q:=A.h;have s:=A.steps;have e:arGo c a i={a with m:=(aF c i a.m (a.ks.getD i aI)).1,ks:=a.ks.set i (aF c i a.m (a.ks.getD i aI)).2,l:=a.l.set (a.open'.getD i 0).toNat (noteS c (aF c i a.m (a.ks.getD i aI)).1 (aF c i a.m (a.ks.getD i aI)).2 a.steps (a.l.getD (a.open'.getD i 0).toNat spZ)),steps:=a.steps+1}:=rfl;rw[e];have g:(aF c i a.m (a.ks.getD i aI)).2.busy=true->(a.ks.getD i aI).busy=true:=λh=>by
  cases hb:(a.ks.getD i aI).busy with
  |true=>rfl
  |false=>rw[aF,bX hb]at h;rw[<- hb];exact h
 generalize aF c i a.m (a.ks.getD i aI)=r at*;refine⟨w1,by rw[cE];exact A.n3,A.n4,A.n5,λj d=>?_,A.ops,A.opu,A.at',λj d hb=>?_,by rw[cE];omega,by show a.h.length<=n+1;omega,by show 0<=a.steps+1/\a.steps+1<=((n+1:Nat):Int);omega⟩
 ·show tu c (n+1) ((a.ks.set i r.2).getD j aI);rw[iX _ k];split
  ·exact w2
  ·exact(A.wk j d).mono (Nat.le_succ n)
 ·show 0<=a.open'.getD j 0/\a.open'.getD j 0<((a.l.set _ _).length:Int);rw[cE];have b:((a.ks.set i r.2).getD j aI).busy=true:=hb;rw[iX _ k]at b;by_cases e:j=i
  ·rw[bX e]at b;subst e;exact A.op j d (g b)
  ·rw[bY e]at b;exact A.op j d b
theorem ar_pick(N:gM c)(k:(n+2)*grow c<=90000)(r:n+2<=90000)(A:ArI c n a)(x:Int):ArI c (n+2) (px c a x)/\(hM c a x=true->PkOk c (if(a.ks.getD x.toNat aI).busy then a else jN c a x.toNat) x.toNat):=by
 have l:(n+2)*grow c=n*grow c+2*grow c:=by rw[Nat.add_mul]
 have o:(n+1)*grow c=n*grow c+grow c:=by rw[Nat.add_mul,Nat.one_mul]
 unfold px;cases b:hM c a x with
 |false=>rw[bX rfl];exact⟨A.mono dy,λh=>by cases h⟩
 |true=>
 rw[bY dz];have p:0<=x/\x<c.1:=by
  unfold hM at b;simp only[de,decide_eq_true_eq]at b;exact⟨b.1,b.2.1⟩
 obtain⟨i,q⟩:∃i:Nat,x=i:=⟨x.toNat,(du p.1).symm⟩
 subst q;have s:=N.n1;have d:i<cW c:=dy;rw[cq];have e:∀f:tj,ArI c (n+1) f->ArI c (n+2) (arGo c f i)/\PkOk c f i:=λf g=>by
  obtain⟨w1,w2⟩:=wk_inv (id:=i) N g.m (g.wk i d) dy d;exact⟨ar_go N dy g d,(g.wk i d).ok N dy dy,w2.wm N dy k w1⟩
 cases hb:(a.ks.getD i aI).busy with
 |true=>
  obtain⟨k1,k2⟩:=e a (A.mono (Nat.le_succ n));exact⟨by rw[bX rfl];exact k1,λ_=>by rw[bX rfl];exact k2⟩
 |false=>
  have j:eE a i<(a.ops.getD i []).length:=by
   unfold hM at b;rw[cq,hb]at b;simp only[de,decide_eq_true_eq,Bool.false_or]at b;exact b.2.2
  obtain⟨k1,k2⟩:=e _ (ar_begin N A d j).1;exact⟨by rw[bY dz];exact k1,λ_=>by rw[bY dz];exact k2⟩
theorem run_ok(N:gM c):∀(p:List Int) (n:Nat) (a:tj),ArI c n a->n+2*p.length<=90000->(n+2*p.length)*grow c<=90000->RunOk c a p/\ArI c (n+2*p.length) (oZ c a p)
 | [],n,a,A,_,_=>⟨trivial,A⟩
 |x::p,n,a,A,f,b=>by
  have d:(x::p).length=p.length+1:=rfl;rw[d]at f b;have e:n+2*(p.length+1)=(n+2)+2*p.length:=dy;have g:(n+2)*grow c<=90000:=cQ (Nat.mul_le_mul_right _ dy) b;have i:n*grow c<=90000:=cQ (Nat.mul_le_mul_right _ dy) b;obtain⟨k1,k2⟩:=ar_pick N g dy A x;obtain⟨j,k⟩:=run_ok N p (n+2) (px c a x) k1 dy (by rw[<- e];exact b);exact⟨⟨A.ok N dy i,k2,j⟩,by rw[d,e];exact k⟩
end
section
variable{W w w':World}
theorem lit_rd{b:Nat}{xs:List Int}{e:TypeId}(h:hp w b=some (.cells (ints xs).toArray e)):rr .i64 w (some ⟨b,0,none⟩) xs:=λi a=>by
 refine⟨_,rfl,?_⟩;rw[eR,gi,h,aN,cV];simp only[ints,List.getElem?_toArray,cM,bZ a,cu];rfl
structure NmW(q:Nat)(A:Option Addr)(cc:Nat)(xs:List Int)(B:Nat)(w:World):Prop where
 sq:∃at':Nat,hp w q=some (.cells #[.slice A xs.length cc,bS (at':Int)] 114)/\at'<=B
 rd:rr .i64 w A xs
 ne:∀p,A=some p->p.block≠q
theorem NmW.N{q:Nat}{A:Option Addr}{a:Nat}{xs:List Int}{B:Nat}(h:NmW q A a xs B w)(j:B<=1000000){m:Int}(c:0<m)(d:m<=1000000){K:Value->World->Prop}(e:∀(r:Nat) w',(r:Int)<m->ad [q] w w'->NmW q A a xs (B+1) w'->K (bS r) w'):
  aa prog 53 [bU q,bS m] w K:=by
 obtain⟨at',f,k⟩:=h.sq;refine(c_SeqN f h.rd h.ne dy c d).mono ?_;rintro v w' ⟨⟨r,rfl,g⟩,i,b⟩;exact e r w' g b ⟨⟨at'+1,i,dy⟩,rr.aw h.rd b λp hp=>by simpa using h.ne p hp,h.ne⟩
theorem c_mConfig(a:Int)(w:World):aa prog 25 [bS a] w λv w'=>∃c:cP,v= .agg (dK c).toArray/\(hY c=true/\c.2.1<=8)/\ad [] w w':=by
 apply F25_ok;have i:∀{m:Int} (a:Int) (w:World),0<m->m<=1000->∀K:Value->World->Prop,(∀ x:Int,K (bS x) w)->aa prog 11 [bS a,bS m] w K:=by
  intro m a w z J K L;exact(mS a m w z dy).step (L _)
 have s2:(dK (0,0,0,0,0,0)).toArray.size=6:=rfl;simp only[F25,al_25];generalize f:w.alloc _=w1;have M:ad [] w w1:=by rw[<- f];exact(ad.refl _ _).alloc _
 have A:hp w1 w.heap.size=some (.cells (dK (0,0,0,0,0,0)).toArray 25):=by rw[<- f,af,bX rfl];rfl
 clear f;refine i _ _ dz dz _ λB=>?_;simp only[m3 (show(4:Int)≠0 by decide),ac];refine i _ _ dz dz _ λx1=>?_;simp only[m3 (show(32:Int)≠0 by decide),ac];refine i _ _ dz dz _ λC=>?_;simp only[m3 (show(64:Int)≠0 by decide),ac];refine i _ _ dz dz _ λD=>?_;simp only[m3 (show(256:Int)≠0 by decide),ac];refine i _ _ dz dz _ λE=>?_;simp only[m3 (show(1024:Int)≠0 by decide),ac];refine i _ _ dz dz _ λF=>?_;simp only[bs_22_6,bd_114_0,ac,ak,au];generalize d:w1.alloc _=e;have G:ad [] w1 e:=by rw[<- d];exact(ad.refl _ _).alloc _
 have sa:e.heap.size=w1.heap.size+1:=by rw[<- d,ah]
 have O:hp e w1.heap.size=some (.cells (ints [B,x1,C,D,E,F]).toArray 3):=by rw[<- d,af,bX rfl];rfl
 clear d;generalize g:e.alloc _=wb;have cb:ad [] e wb:=by rw[<- g];exact(ad.refl _ _).alloc _
 have ab:hp wb e.heap.size=some (.cells #[.slice (some ⟨w1.heap.size,0,none⟩) 6 6,bS 0] 114):=by rw[<- g,af,bX rfl]
 clear g;have P:NmW e.heap.size (some ⟨w1.heap.size,0,none⟩) 6 [B,x1,C,D,E,F] 0 wb:=⟨⟨0,ab,cy _⟩,(lit_rd O).an cb.below,λp hp=>by cases hp;simp only;omega⟩
 have Q:=cb.at (G.at A (by simp)) (by simp);have s1:=az A;have b:ad [] w wb:=(M.trans G).trans cb;have s:w.heap.size≠e.heap.size:=dy;generalize hq:e.heap.size=q at*;have qn:w.heap.size<=q:=dy;have fin:∀{w1:World},ad [q] wb w1->ad [] w w1:=λj=>⟨j.os.trans b.os,j.tape.trans b.tape,j.output.trans b.output,cQ b.size j.size,λk H _=>by
  rw[j.block k (cY H b.size) (by simp;omega)];exact b.block k H (by simp)⟩
 refine P.N dy dz dz λr0 v0 z R S=>?_;simp only[aj,ac,ap (n:=1+(r0:Int)) dy dy];refine S.N dy dz dz λl v1 J k1 T=>?_;simp only[aj,ac,ap (n:=1+(l:Int)) dy dy];refine T.N dy dz dz λo v2 h2 k2 U=>?_;simp only[aj,m0,ac,ap (n:=8*(o:Int)) dy dy,ap (n:=8+8*(o:Int)) dy dy];refine U.N dy dz dz λt v3 h3 V W=>?_;simp only[aj,ac,ap (n:=1+(t:Int)) dy dy];refine W.N dy dz dz λI v4 h4 X Y=>?_;refine Y.N dy dz dz λu Z h5 k5 D6=>?_;have kk:ad [q] wb Z:=R.trans (k1.trans (k2.trans (V.trans (X.trans k5))));have r:=kk.at Q (by simpa using s);have y:ai prog (Instr.build 25 #[(0,bS (1+(r0:Int))),(1,bS (1+(l:Int))),(2,bS (8+8*(o:Int))),(3,bS (1+(t:Int))),(4,bS I),(5,bS (1+(u:Int)))])=some (.agg (dK (1+(r0:Int),1+(l:Int),8+8*(o:Int),1+(t:Int),(I:Int),1+(u:Int))).toArray):=bd_25_0_1_2_3_4_5;simp only[aj,ac,ap (n:=1+(u:Int)) dy dy,y];rw[st_25 rfl rfl (by rw[r];rfl) (by rw[r];rfl),r,ar,fW (aq (az r) _ _),ac];refine⟨_,rfl,⟨?_,by show 1+(l:Int)<=8;omega⟩,(fin kk).put (.inr (cy _)) _ _⟩;simp only[hY,de,decide_eq_true_eq];omega
theorem rdI_v{A:Option Addr}{xs:List Int}(h:rr .i64 w A xs):ed w A (ints xs):=λj u b=>by
 have c:=(ce.1 b).1;have a:j<xs.length:=by simpa [ints]using c
 obtain⟨p,d,e⟩:=h j a;refine⟨p,d,e.trans ?_⟩;rw[ints,cM,bZ a]at b;rw[<- b,cu,bZ a];rfl
theorem l_picks{A:Option Addr}{k:Nat}{xs:List Int}{n:Nat}(C:0<n/\n<=1000)(D:xs.length<=100000)(e:ed W A (ints xs)):∀(d i:Nat) (w:World) (p:List Int) (c:Value),i+d=xs.length->ad [] W w->p.length=i->w.ownsRow W.heap.size 3 1 c p.length (ints p)->
  P29_0 (.slice A xs.length k) (bS n) c (bS i) w λv w'=>∃p':List Int,p'.length=xs.length/\w'.ownsRow W.heap.size 3 1 v p'.length (ints p')/\ad [] W w'
 |0,i,w,p,c,E,g,hp,o=>by
  apply L29_0_ok;have F:¬(i:Int)<xs.length:=dy;simp only[L29_0,aK,ac,aU,F,decide_false,zS];exact⟨p,dy,o,g⟩
 |d+1,i,w,p,c,E,g,hp,o=>by
  apply L29_0_ok;have G:=e.an g.below;have r:(i:Int)<xs.length:=dy;obtain⟨b,s⟩:∃b,xs[i]? =some b:=⟨_,bZ dy⟩
  obtain⟨q,f,H,t⟩:=rd_int G s k;have j:∀y:Int,P29_1 (.slice A xs.length k) (bS n) c (bS i) (bS y) w λv w'=>∃p':List Int,p'.length=xs.length/\w'.ownsRow W.heap.size 3 1 v p'.length (ints p')/\ad [] W w':=λy=>by
   apply L29_1_ok;rw[L29_1];refine ps_22 (x:=c) (xs:=ints p) (n:=p.length) (base:=W.heap.size) (by simp) o dy g.size λI w1 J u K=>?_;have z:ad [] W w1:=g.grown u λk L=> .inr (by have:=m6 o L;omega);have M:IntKind.i64.wrap ((i:Int)+1)=((i+1:Nat):Int):=by rw[ap dy dy];omega
   simp only[aj,M,ac];exact l_picks C D e d (i+1) w1 (p++ [y]) I dy z (by rw[cJ];show p.length+1=_;omega) (by rw[cJ];simpa [ints]using J)
  have a:∀(m:Int) (w:World),0<m->m<=1000->aa prog 11 [bS b,bS m] w λv w'=>v=bS (numV b m)/\w'=w:=λm w O P=>mS b m w O dy;simp only[L29_0,aK,ac,aU,r,decide_true,H,ag,t,zS];refine(a n w dy dy).step ?_;simp only[t,ac];refine(a 97 w dy dy).step ?_;by_cases l:numV b 97=96
  ·have B:(numV b 97==96)=true:=by rw[l];rfl
   simp only[t,B,ac,zS];refine(a 3 w dy dy).step ?_;simp only[aj,aZ,ac];exact j _
  ·have B:(numV b 97==96)=false:=cN l;simp only[B,ac,zS];exact j _
theorem c_Picks{A:Option Addr}{k:Nat}{xs:List Int}{n:Nat}(b:0<n/\n<=1000)(c:xs.length<=100000)(a:ed W A (ints xs)):aa prog 29 [.slice A xs.length k,bS n] W λv w'=>∃p':List Int,p'.length=xs.length/\w'.ownsRow W.heap.size 3 1 v p'.length (ints p')/\ad [] W w':=by
 apply F29_ok;exact l_picks b c a xs.length 0 W [] (.slice none 0 0) dy (ad.refl _ _) rfl (World.ownsRow_nil _ _ _ _)
theorem memI_fill{c:cP}{s:iP}(I:StkI c s):∀{m:bI},iC c m->iC c (fillV s m):=fun{m} M=>by
 have h:∀(i:Nat) (m:bI),iC c m->iC c (rj s m i):=λi=>by
  induction i with
  |zero=>exact λm M=>M
  |succ i a=>
   intro m M;rw[qS];refine(a m M).set (I.lk i) ?_;have:=I.n;split
   ·exact⟨dj _,by show(0:Int)<=_;omega⟩
   ·have b:(i+2)%(s.n+1)<s.n+1:=Nat.mod_lt _ dy;constructor<;>omega
 rw[fillV_eq];exact h s.n _ (M.set I.hd ⟨dy,dy⟩)
theorem memI_new{c:cP}(N:gM c):iC c (qQ c):=by
 have a:iC c (List.replicate (kX c) 0):=by
  refine⟨⟨dt,λx b=>?_⟩,λi d=>?_⟩
  ·rw[List.eq_of_mem_replicate b];exact⟨dj _,by show(0:Int)<=_;omega⟩
  ·have e:di (List.replicate (kX c) 0) (iS c i)=0:=by
    rw[di,cu,List.getElem?_replicate];split<;>rfl
   rw[e,get0_mark];omega
 exact memI_fill (spareJ N) (memI_fill (poolJ N) a)
theorem arI_new{c:cP}{ops:List (List ez)}(N:gM c)(g:∀i,(ops.getD i []).length<=1000)(j:∀i,∀o∈ops.getD i [],opU o):ArI c 0 (iW c ops):=by
 have d:∀i,(iW c ops).ops.getD i []=if i<cW c then ops.getD i []else []:=λi=>by
  show((List.range (cW c)).map λi=>ops.getD i []).getD i []=_;rw[cu,cM];by_cases h:i<cW c
  ·rw[List.getElem?_range h,bX h];rfl
  ·rw[df (by rw[List.length_range];omega),bY h];rfl
 have f:∀i,i<cW c->(iW c ops).ks.getD i aI=aI:=λi a=>by
  show(List.replicate (cW c) aI).getD i aI=_;rw[cu,List.getElem?_replicate,bX a];rfl
 refine⟨memI_new N,by simp[iW],by simp[iW],by simp[iW],λi a=>by rw[f i a];exact wkI_new,λi=>?_,λi o b=>?_,λi a=>?_,λi a hb=>?_,cy _,cy _,⟨dj _,dj _⟩⟩
 ·rw[d];split
  ·exact g i
  ·exact cX _
 ·rw[d]at b;split at b
  ·exact j i o b
  ·cases b
 ·have e:(iW c ops).at'.getD i 0=0:=by
   show(List.replicate (cW c) (0:Int)).getD i 0=_;rw[cu,List.getElem?_replicate,bX a];rfl
  rw[e];omega
 ·rw[f i a]at hb;cases hb
end
section
variable{w w0 w1 w2 w':World}{A B:Option Addr}{k kb:Nat}{xs ps:List Int}{mo:Nat}
structure Played(mo:Nat)(ps:List Int)(c:cP)(ops:List (List ez))(p:List Int):Prop where
 n:gM c
 c8:cC c<=8
 ol:ops.length=cW c
 gen:∀l∈ops,∀o∈l,GenO o
 uB:uB ops<=40
 pl:p.length=ps.length
 run:RunOk c (iW c ops) p
 inv:ArI c (2*p.length) (oZ c (iW c ops) p)
theorem wfO_u{o:ez}(h:WfO' o):opU o:=⟨⟨h.1.1,by have:=h.1.2;omega⟩,h.2.1,by have:=h.2.2;omega⟩
theorem played_ok{c:cP}{ops:List (List ez)}{p:List Int}(g:hY c=true)(s:c.2.1<=8)(b:ops.length=cW c)(e:∀l∈ops,∀o∈l,GenO o)(j:uB ops<=40)(hp:p.length=ps.length)(k:ps.length<=500):Played mo ps c ops p:=by
 have N:=cfN g;have t:=N.n2;have m:∀i,(ops.getD i []).length<=1000:=λi=>by
  rw[cu];cases h:ops[i]? with
  |none=>exact cX _
  |some l=>have:=tot_ge (cD h);show l.length<=1000;omega
 have n:∀i,∀o∈ops.getD i [],opU o:=λi o a=>by
  rw[cu]at a;cases h:ops[i]? with
  |none=>rw[h]at a;cases a
  |some l=>rw[h]at a;exact wfO_u (e l (cD h) o a).2
 have d:cC c<=8:=dy;have q:(0+2*p.length)*grow c<=90000:=by
  have:grow c<=17:=by unfold grow;omega
  have u:(0+2*p.length)*grow c<=1000*17:=Nat.mul_le_mul dy this;omega
 obtain⟨r,f⟩:=run_ok N p 0 _ (arI_new N m n) dy q;exact⟨N,d,b,e,j,hp,r,by rw[cV]at f;exact f⟩
def PlR(mo:Nat)(ps:List Int)(w:World)(v:Value)(w':World):Prop:=∃c ops p a cs,Played mo ps c ops p/\v= .tuple #[.agg (dK c).toArray,.slice a (oZ c (iW c ops) p).l.length cs]/\ed w' a ((oZ c (iW c ops) p).l.flatMap ji)/\ad [] w w'
theorem LL.ops{a:Nat}{vs:List Value}{L:List (List ez)}(h:LL w a vs L):OpsL w (λ_=>none) (some ⟨a,0,none⟩) L vs:=by
 refine⟨h.len,⟨λj u c=>⟨_,rfl,?_⟩,λ_ _ _=>rfl⟩,λi b=>?_⟩
 ·have f:=(ce.1 c).1;rw[<- c,eR];show w.cell? ⟨a,0+j,none⟩=_;rw[gi,h.hb,aN];simp
 ·obtain⟨x,d⟩:∃x,vs[i]? =some x:=⟨_,bZ (by rw[h.len];exact b)⟩
  have e:L.getD i []=L[i]:=by rw[cu,bZ b];rfl
  obtain⟨A',g,k,l,m,_⟩:=aG (h.own i x L[i] d (bZ b));rw[e];exact⟨A',g,by rw[d,k],l,λ_ _ _=>rfl⟩
theorem c_played26(hA:rr .i64 w A xs)(hB:rr .i64 w B ps)(a2:ps.length<=500)(E:mo<=40)(n:Int):
  aa prog 10 [bS n,bS mo,.slice A xs.length k,.slice B ps.length kb] w (PlR mo ps w):=by
 apply F10_ok;rw[F10];dsimp only;rw[al_25];generalize t:World.alloc _ _=w1;have c1:ad [] w w1:=by rw[<- t];exact(ad.refl _ _).alloc _
 have b8:hp w1 w.heap.size=some (.cells (dK (0,0,0,0,0,0)).toArray 25):=by rw[<- t,af,bX rfl];rfl
 clear t;obtain⟨b,a3⟩:∃q,q=w.heap.size:=⟨_,rfl⟩
 rw[<- a3]at b8⊢;refine(c_mConfig n w1).mono ?_;rintro _ w2 ⟨c,rfl,⟨hm,h8⟩,c2⟩;have N:=cfN hm;have n1:=N.n1;have b6:=N.b1;rw[al_25];generalize t:World.alloc _ _=G;have c3:ad [] w2 G:=by rw[<- t];exact(ad.refl _ _).alloc _
 have j:hp G w2.heap.size=some (.cells (dK (0,0,0,0,0,0)).toArray 25):=by rw[<- t,af,bX rfl];rfl
 clear t;obtain⟨a,H⟩:∃q,q=w2.heap.size:=⟨_,rfl⟩
 rw[<- H]at j⊢;rw[st_25 rfl rfl (by rw[j];rfl) (by rw[j];rfl),j,ar];have cp:ad [] w2 (Ev.put G a (dK c).toArray 25):=c3.put (.inr dy) _ _;have f:hp (Ev.put G a (dK c).toArray 25) a=some (.cells (dK c).toArray 25):=aq (az j) _ _;have I:=(c1.trans c2).trans cp;have u:=cp.at (c2.at b8 (by simp)) (by simp);generalize Ev.put G a (dK c).toArray 25=w4 at*;have cd:=(ad.refl [] w4).drew;have J:=I.trans cd;have x:ao (hp w4 a) (0+0)=some (bS (cW c)):=by obtain⟨x,_⟩:=cfl f;rw[n1]at x;exact x
 have M:=hA.an J.below;have s:hp w4.drew a=some (.cells (dK c).toArray 25):=f;simp only[eS,ag,x,fW s,ac,zS];have fin:∀(ops:List (List ez)) (g:World) (y:Nat) (vs:List Value),ad [] w4 g->LL g y vs ops->(∀ l∈ops,∀o∈l,GenO o)->ops.length=cW c->uB ops<=40->
   aa prog 26 [.agg (dK c).toArray,.slice (some ⟨y,0,none⟩) (cW c) (cW c)] g λO w'=>nP (ai prog (Instr.extract O 0)) λa4=>nP (ai prog (Instr.extract O 1)) λa5=>P10_0 (.slice B ps.length kb) (bU b) (bU a) a4 a5 w' (PlR mo ps w):=by
  intro ops g y vs m a6 hg P ht;have Q:=I.trans m;have R5:Rel g (λ_=>none):=⟨λ_ _ _ _ h=>(by cases h),λ_ _ h=>(by cases h)⟩
  have R:∀i,i<ops.length->(ops.getD i []).length<=1000:=λi hi=>by
   rw[cu,bZ hi];have:=tot_ge (List.getElem_mem hi);show ops[i].length<=1000;omega
  have na:=c_NewArena (kk:=cW c) N rfl R5 a6.ops R dy;rw[P]at na;refine na.mono ?_;rintro _ w6 ⟨h,ab,T6,dY,dB,rfl,g6,P6⟩;simp only[jk,jm,ac];apply L10_0_ok;have c6:ad [] g w6:=g6.aw.chg0 λk hk=>absurd rfl hk;have a7:=Q.trans c6;have S:=c6.at (m.at f (by simp)) (by simp);have b7:=c6.at (m.at u (by simp)) (by simp);have l6:ao (hp w6 a) (0+0)=some (bS (cW c)):=by obtain⟨x,_⟩:=cfl S;rw[n1]at x;exact x
  simp only[L10_0,ptr,eS,ag,l6,ac,zS];refine(c_Picks (n:=cW c) dy dy (rdI_v (hB.an a7.below))).mono ?_;rintro v w7 ⟨p,a8,op,c7⟩;obtain⟨Ap,kp,rfl,rp,np,_⟩:=aG op;have R6:=g6.rel;have R7:=R6.aw c7;have P7:=P6.aw R6 c7;have L7:Lo w7 T6 Ap (ints p):=⟨rp,λq hq _=>R6.fresh (np q hq).1⟩
  have PL:Played mo ps c ops p:=played_ok hm h8 P hg ht a8 a2;refine(c_Run N R7 P7 dy L7 PL.run).mono ?_;rintro _ d ⟨_,T8,g8,P8⟩;have T:Gx (λ_=>True) g (λ_=>none) d T8:=(g6.trans (Gx.bV R6 c7)).trans g8;have z:ad [] g d:=T.aw.chg0 λk hk=>absurd rfl hk;have a9:=Q.trans z;obtain⟨kv,ov,av,pv,lv,hv,F8⟩:=ar_f g8.rel P8.nd;obtain⟨C,cs,es,rs,ns,_⟩:=aG F8.rl;have es:lv= .slice C (oZ c (iW c ops) p).l.length cs:=es;have U:ao (hp d ab) (0+11)=some (.slice C (oZ c (iW c ops) p).l.length cs):=by rw[<- es];exact F8.ld.2.2.2.2.2.1
  have rs:ed d C ((oZ c (iW c ops) p).l.flatMap ji):=rs;have V:=z.at (m.at f (by simp)) (by simp);have W:=z.at (m.at u (by simp)) (by simp);have X:=(ad.refl [] d).drew;have D:hp d.drew a=some (.cells (dK c).toArray 25):=V;simp only[kB,iV,U,fW D,ac,zS];have Y:∀K:World->Prop,(K (Ev.put d.drew b (dK c).toArray 25))->dE prog (Instr.storeAt 25 (bU b) (.agg (dK c).toArray)) d.drew K:=λK hK=>by
   have r:hp d.drew b=some (.cells (dK (0,0,0,0,0,0)).toArray 25):=W;rw[st_25 rfl rfl (by rw[r];rfl) (by rw[r];rfl),r,ar];exact hK
  have Z:T8 b=none:=by
   have b2:b<g.heap.size:=az (m.at u (by simp));exact T.non b b2 rfl
  have b3:ab≠b:=λe=>by
   have:=P8.nd;rw[e,Z]at this;cases this
  have cz:ad [] w (Ev.put d.drew b (dK c).toArray 25):=(a9.trans X).put (.inr dy) _ _;have lz:fR prog 25 (bU b) (Ev.put d.drew b (dK c).toArray 25)=some (.agg (dK c).toArray):=fW (aq (az (show hp d.drew b=_ from W)) _ _);have fz:ao (hp (Ev.put d.drew b (dK c).toArray 25) ab) (0+11)=some (.slice C (oZ c (iW c ops) p).l.length cs):=by rw[aV b3];exact U
  have rz:ed (Ev.put d.drew b (dK c).toArray 25) C ((oZ c (iW c ops) p).l.flatMap ji):=by
   refine rd_off (w:=d) (F:=λq=>q=b) rs ?_ λp' b4 b5 e=>?_
   ·exact(aW.bV X _).sq (aW.put d.drew b _ _)
   ·have:=(F8.n.each 11 _ lv rfl rfl).2 p'.block (by rw[es,b4];rfl);rw[e,Z]at this;cases this
  refine⟨?_,?_⟩
  ·refine Y _ ?_;simp only[lz,ac];exact⟨c,ops,p,C,cs,PL,rfl,rz,cz⟩
  ·refine Y _ ?_;simp only[fz,lz,ac];exact⟨c,ops,p,C,cs,PL,rfl,rz,cz⟩
 refine⟨?_,?_⟩
 ·refine(c_genOps (c:=k) M (n:=cW c) dy dy E).mono ?_;rintro _ g ⟨y,vs,L,rfl,h1,h2,h3,h4,_,m⟩;exact fin L g y vs (cd.trans m) h1 h2 h3 h4
 ·refine(c_genOps (c:=k) M (n:=cW c) dy dy E).mono ?_;rintro _ g ⟨y,vs,L,rfl,h1,h2,h3,h4,_,m⟩;have a1:=m.at s (by simp);simp only[fW a1,ac];exact fin L g y vs (cd.trans m) h1 h2 h3 h4
end
section
variable{w:World}{sk:Nat}{A Ah:Option Addr}{n cs ch:Nat}{pv:Value}{t top:Int}{mn:Bool}{l:List dR}{put:List Int}{e:TypeId}
theorem l_sMay{W:World}(Y:l.length<=1000)(O:ed W A (l.flatMap ji))(r:put.length<=1000){i:Nat}(F:i<l.length):∀(d k:Nat) (w:World),ad [] W w->hp w sk=some (.cells (tQ A Ah l.length cs ch pv t top mn) 84)->sY w pv put->k+d=l.length->
  (∀ j a,j<k->l[j]? =some a->(!(decide (0<=a.rs)&&(!put.contains (j:Int)&&ahead a l[i])))=true)->
  P65_0 (bU sk) (bS i) (.slice A l.length cs) (bS l.length) (bS k) w λv w'=>v= .bool (kq l put i)/\ad [] W w':=by
 intro d;induction d with
 |zero=>
  intro k w u h p R e;apply L65_0_ok;have:¬((k:Int)<l.length):=dy;simp only[L65_0,zS,this];refine(c_sIs h p r (i:Int)).step ?_;simp only[zS];refine⟨?_,u⟩;have:kq l put i= !put.contains (i:Int):=by
   unfold kq;rw[all_true λj hj=>?_,Bool.true_and];rw[bZ hj,bZ F];exact e j l[j] dy (bZ hj)
  rw[this]
 |succ d S=>
  intro k w u h p R e;apply L65_0_ok;have G:(k:Int)<l.length:=dy;have f:k<l.length:=dy;obtain⟨b,o,T,U⟩:=hJ (c:=cs) (j:= .i64) (i:=k) (O.an u.below) f;obtain⟨Z,o',V,H⟩:=hJ (c:=cs) (j:= .i64) (i:=i) (O.an u.below) F;simp only[L65_0,zS,G,T,U.ld,al_39];rw[st_39 (by rfl) (by rfl) (by rw[af,bX rfl];rfl) (by rw[af,bX rfl];rfl),af,bX rfl,ar];generalize q:Ev.put (w.alloc _) w.heap.size (jV l[k]) 39=w1;have g:ad [] w w1:=by rw[<- q];exact((ad.refl _ _).alloc _).put (.inr (cy _)) _ _
  have P:hp w1 w.heap.size=some (.cells (jV l[k]) 39):=by rw[<- q,bf,bX rfl,bX (by simp)]
  clear q;have x:=u.trans g;have I:=g.at h (by simp);have y:=p.an g.below;have H:=H.an g;have z:ao (hp w1 w.heap.size) (0+11)=some (bS l[k].rs):=rm P 11;have B:ad [] w1 w1.drew:=(ad.refl _ _).drew;have J:hp w1.drew sk=some (.cells (tQ A Ah l.length cs ch pv t top mn) 84):=I;have C:=y.an B.below;have next:(!(decide (0<=l[k].rs)&&(!put.contains (k:Int)&&ahead l[k] l[i])))=true->∀w2,ad [] w1 w2->P65_0 (bU sk) (bS i) (.slice A l.length cs) (bS l.length) (bS ((k:Int)+1)) w2 λv w'=>v= .bool (kq l put i)/\ad [] W w':=λX w2 m=>
   S (k+1) w2 (x.trans m) (m.at I (by simp)) (y.an m.below) dy λj s hj K=>by
    rcases cZ j k with hj'|hj'
    ·exact e j s hj' K
    ·have:j=k:=dy;subst this;rw[bZ f]at K;cases K;exact X
  have L:=ap (n:=(k:Int)+1) dy dy;by_cases E:0<=l[k].rs
  ·simp only[zS,gS,ag,z,E];refine(c_sIs J C r (k:Int)).step ?_;cases Q:put.contains (k:Int)with
   |true=>
    simp only[zS,aj,L];exact next (by rw[Q];simp) _ B
   |false=>
    have M:At w1.drew w.heap.size 0 l[k]:=pj P;simp only[zS,fa_84_0,iV,sk0 I,V,M.ld,(H.an B).ld];refine(c_Ahead l[k] l[i] w1.drew).mono ?_;rintro _ w2 ⟨rfl,m⟩;have m:=B.trans m;cases D:ahead l[k] l[i]with
    |true=>
     simp only[zS];refine⟨?_,x.trans m⟩;have:kq l put i=false:=by
      unfold kq;rw[all_false f (by rw[bZ f,bZ F];simp only[Q,D,cj E];rfl),Bool.false_and]
     rw[this]
    |false=>
     simp only[zS,aj,L];exact next (by rw[D];simp) _ m
  ·simp only[zS,gS,ag,z,E,aj,L];exact next (by simp[E]) _ B
theorem c_sMay(c:l.length<=1000)(d:ed w A (l.flatMap ji))(a:put.length<=1000)(h:hp w sk=some (.cells (tQ A Ah l.length cs ch pv t top mn) 84))(b:sY w pv put){i:Nat}(e:i<l.length):aa prog 65 [bU sk,bS i] w λv w'=>v= .bool (kq l put i)/\ad [] w w':=by
 apply F65_ok;simp only[F65,ae,zS,fa_84_0,iV,sk0 h,ff];exact l_sMay c d a e l.length 0 w (ad.refl _ _) h b dy λj s f=>dy
end
section
variable{w:World}{A:Option Addr}{c n:Nat}{cs:List Value}
theorem pd(h:ed w none cs):cs= []:=by
 cases cs with
 |nil=>rfl
 |cons u us=>obtain⟨p,hp,_⟩:=h 0 u rfl;cases hp
theorem c_clSlot(d:ed w A cs)(e:cs.length=n*2)(f:∀u∈cs,u.oneCell'=true)(o:n<=1000000):
  aa prog 111 [.slice A n c] w λv w'=>w'.ownsRow w.heap.size 142 2 v n cs/\ad [] w w':=by
 apply F111_ok;cases A with
 |none=>
  have a:=pd d;subst a;have b:n=0:=by simp at e;omega
  subst b;simp only[F111,fL Tryz.underlying86,Option.isNone_none,ac,aY];exact⟨World.ownsRow_nil _ _ _ _,ad.refl _ _⟩
 |some p=>
  simp only[F111,fL Tryz.underlying86,Option.isNone_some,ac,aQ];obtain⟨i,g,j,k,hb⟩:=inf_142;exact kS (size:=2) Tryz.underlying86 g j k rfl dy e d f (by unfold maxLen;omega) (by rw[hb];omega) λx' w' l m=>⟨l,m⟩
theorem c_clHand(d:ed w A cs)(e:cs.length=n*2)(f:∀u∈cs,u.oneCell'=true)(o:n<=1000000):
  aa prog 112 [.slice A n c] w λv w'=>w'.ownsRow w.heap.size 136 2 v n cs/\ad [] w w':=by
 apply F112_ok;cases A with
 |none=>
  have a:=pd d;subst a;have b:n=0:=by simp at e;omega
  subst b;simp only[F112,fL Tryz.underlying88,Option.isNone_none,ac,aY];exact⟨World.ownsRow_nil _ _ _ _,ad.refl _ _⟩
 |some p=>
  simp only[F112,fL Tryz.underlying88,Option.isNone_some,ac,aQ];obtain⟨i,g,j,k,hb⟩:=inf_136;exact kS (size:=2) Tryz.underlying88 g j k rfl dy e d f (by unfold maxLen;omega) (by rw[hb];omega) λx' w' l m=>⟨l,m⟩
theorem c_clName(d:ed w A cs)(e:cs.length=n*2)(f:∀u∈cs,u.oneCell'=true)(o:n<=1000000):
  aa prog 113 [.slice A n c] w λv w'=>w'.ownsRow w.heap.size 96 2 v n cs/\ad [] w w':=by
 apply F113_ok;cases A with
 |none=>
  have a:=pd d;subst a;have b:n=0:=by simp at e;omega
  subst b;simp only[F113,fL Tryz.underlying134,Option.isNone_none,ac,aY];exact⟨World.ownsRow_nil _ _ _ _,ad.refl _ _⟩
 |some p=>
  simp only[F113,fL Tryz.underlying134,Option.isNone_some,ac,aQ];obtain⟨i,g,j,k,hb⟩:=inf_96;exact kS (size:=2) Tryz.underlying134 g j k rfl dy e d f (by unfold maxLen;omega) (by rw[hb];omega) λx' w' l m=>⟨l,m⟩
theorem c_clRegion(d:ed w A cs)(e:cs.length=n*7)(f:∀u∈cs,u.oneCell'=true)(o:n<=1000000):
  aa prog 114 [.slice A n c] w λv w'=>w'.ownsRow w.heap.size 99 7 v n cs/\ad [] w w':=by
 apply F114_ok;cases A with
 |none=>
  have a:=pd d;subst a;have b:n=0:=by simp at e;omega
  subst b;simp only[F114,fL Tryz.underlying87,Option.isNone_none,ac,aY];exact⟨World.ownsRow_nil _ _ _ _,ad.refl _ _⟩
 |some p=>
  simp only[F114,fL Tryz.underlying87,Option.isNone_some,ac,aQ];obtain⟨i,g,j,k,hb⟩:=inf_99;exact kS (size:=7) Tryz.underlying87 g j k rfl dy e d f (by unfold maxLen;omega) (by rw[hb];omega) λx' w' l m=>⟨l,m⟩
theorem c_clInts(d:ed w A cs)(e:cs.length=n*1)(f:∀u∈cs,u.oneCell'=true)(o:n<=1000000):
  aa prog 115 [.slice A n c] w λv w'=>w'.ownsRow w.heap.size 3 1 v n cs/\ad [] w w':=by
 apply F115_ok;cases A with
 |none=>
  have a:=pd d;subst a;have b:n=0:=by simp at e;omega
  subst b;simp only[F115,fL underlying22,Option.isNone_none,ac,aY];exact⟨World.ownsRow_nil _ _ _ _,ad.refl _ _⟩
 |some p=>
  simp only[F115,fL underlying22,Option.isNone_some,ac,aQ];obtain⟨i,g,j,k,hb⟩:=mR;exact kS (size:=1) underlying22 g j k rfl dy e d f (by unfold maxLen;omega) (by rw[hb];omega) λx' w' l m=>⟨l,m⟩
theorem c_clHandles(d:ed w A cs)(e:cs.length=n*5)(f:∀u∈cs,u.oneCell'=true)(o:n<=1000000):
  aa prog 116 [.slice A n c] w λv w'=>w'.ownsRow w.heap.size 32 5 v n cs/\ad [] w w':=by
 apply F116_ok;cases A with
 |none=>
  have a:=pd d;subst a;have b:n=0:=by simp at e;omega
  subst b;simp only[F116,fL Tryz.underlying76,Option.isNone_none,ac,aY];exact⟨World.ownsRow_nil _ _ _ _,ad.refl _ _⟩
 |some p=>
  simp only[F116,fL Tryz.underlying76,Option.isNone_some,ac,aQ];obtain⟨i,g,j,k,hb⟩:=inf_32;exact kS (size:=5) Tryz.underlying76 g j k rfl dy e d f (by unfold maxLen;omega) (by rw[hb];omega) λx' w' l m=>⟨l,m⟩
theorem c_clWords(d:ed w A cs)(e:cs.length=n*1)(f:∀u∈cs,u.oneCell'=true)(o:n<=1000000):
  aa prog 117 [.slice A n c] w λv w'=>w'.ownsRow w.heap.size 139 1 v n cs/\ad [] w w':=by
 apply F117_ok;cases A with
 |none=>
  have a:=pd d;subst a;have b:n=0:=by simp at e;omega
  subst b;simp only[F117,fL Tryz.underlying97,Option.isNone_none,ac,aY];exact⟨World.ownsRow_nil _ _ _ _,ad.refl _ _⟩
 |some p=>
  simp only[F117,fL Tryz.underlying97,Option.isNone_some,ac,aQ];obtain⟨i,g,j,k,hb⟩:=inf_139;exact kS (size:=1) Tryz.underlying97 g j k rfl dy e d f (by unfold maxLen;omega) (by rw[hb];omega) λx' w' l m=>⟨l,m⟩
theorem c_clU64s(d:ed w A cs)(e:cs.length=n*1)(f:∀u∈cs,u.oneCell'=true)(o:n<=1000000):
  aa prog 118 [.slice A n c] w λv w'=>w'.ownsRow w.heap.size 33 1 v n cs/\ad [] w w':=by
 apply F118_ok;cases A with
 |none=>
  have a:=pd d;subst a;have b:n=0:=by simp at e;omega
  subst b;simp only[F118,fL Tryz.underlying139,Option.isNone_none,ac,aY];exact⟨World.ownsRow_nil _ _ _ _,ad.refl _ _⟩
 |some p=>
  simp only[F118,fL Tryz.underlying139,Option.isNone_some,ac,aQ];obtain⟨i,g,j,k,hb⟩:=inf_33;exact kS (size:=1) Tryz.underlying139 g j k rfl dy e d f (by unfold maxLen;omega) (by rw[hb];omega) λx' w' l m=>⟨l,m⟩
end
section
variable{W w w1:World}{g3:Nat}{Ps:List Th}{F:Fp}
structure tV(W w:World)(e:TypeId)(g3:Nat)(Ps:List Th)(F:Fp):Prop where
 aw:ad [] W w
 I:dV e g3 Ps w F
 good:∀P∈Ps,dO P
 new:∀k,F k->W.heap.size<=k
theorem cp_chg{a b c:World}{S:Nat->Prop}(h:ad [] a b)(k:aW S b c)(e:∀x,S x->a.heap.size<=x):ad [] a c:=
 ⟨k.os.trans h.os,k.tape.trans h.tape,k.output.trans h.output,cQ h.size k.size,λx d _=>by
  rw[k.block x (cY d h.size) λhf=>by have:=e x hf;omega];exact h.block x d (by simp)⟩
theorem tV.an{e:TypeId}(h:tV W w e g3 Ps F)(a:ad [] w w1):tV W w1 e g3 Ps F:=
 ⟨h.aw.trans a,dV.frame h.I h.good (aW.bV a ck) (λ_ _ h=>h),h.good,h.new⟩
theorem tV.upd{e:TypeId}(h:tV W w e g3 Ps F){Qs:List Th}{a:Fp}(i:dV e g3 Qs w1 a)(b:∀P∈Qs,dO P)(u:aO F a w w1):tV W w1 e g3 Qs a:=
 ⟨cp_chg h.aw u.aw h.new,i,b,λk c=>by
  rcases u.sub k c with h1|h1
  ·exact h.new k h1
  ·have:=h.aw.size;omega⟩
theorem gZ{Ps:List Th}{k:Nat}{P':Th}(h:∀P∈Ps,dO P)(hp:dO P'):∀P∈Ps.set k P',dO P:=λP a=>by
 rcases List.mem_or_eq_of_mem_set a with h1|h1
 ·exact h P h1
 ·rw[h1];exact hp
theorem upd_new{a b:Fp}(c:ad [] w w1)(d:∀k,b k->w.heap.size<=k):aO a b w w1:=⟨aW.bV c a,λk e=> .inr (d k e)⟩
theorem tV.cell{e:TypeId}(h:tV W w e g3 Ps F){k:Nat}{P:Th}(l:Ps[k]? =some P){g:Fp}{P':Th}{v':Value}(m:ad [] w w1)(n:∀k,g k->w.heap.size<=k)(j:dO P')(hv:P' w1 g v'):
  mX (hp w1 g3) (k+1)=true/\v'.cells= #[v']/\v'.oneCell'=true/\∃i,tV W (put w1 g3 ((dG (hp w1 g3)).setIfInBounds k v') (dH (hp w1 g3))) e g3 (Ps.set k P') i:=by
 obtain⟨v,o,_,_,_,_,f⟩:=dV.repl h.I h.good l;obtain⟨a,b,c,_,i,d,u⟩:=f w1 g P' v' (upd_new m n) j hv;exact⟨a,b,c,i,h.upd d (gZ h.good j) u⟩
theorem tV.row{e:TypeId}(h:tV W w e g3 Ps F){k:Nat}{e':TypeId}{z n:Nat}{Qs:List Th}(r:Ps[k]? =some (aL e' z n Qs))(p:∀Q∈Qs,dO Q){j:Nat}{P:Th}(s:Qs[j]? =some P):
  ∃(b c:Nat) (v:Value) (g:Fp),ao (hp w g3) k=some (.slice (some ⟨b,0,none⟩) n c)/\b≠g3/\ao (hp w b) j=some v/\P w g v/\
   ∀{w1:World} {f:Fp} {P':Th} {v':Value},ad [] w w1->(∀ k,f k->w.heap.size<=k)->dO P'->P' w1 f v'->mX (hp w1 b) (j+1)=true/\v'.cells= #[v']/\v'.oneCell'=true/\
    ∃i,tV W (put w1 b ((dG (hp w1 b)).setIfInBounds j v') (dH (hp w1 b))) e g3 (Ps.set k (aL e' z n (Qs.set j P'))) i:=by
 obtain⟨b,c,v,g,t,l,_,_,_,_,m,hv,_,a⟩:=dV.row h.I h.good r p s;refine⟨b,c,v,g,t,l,m,hv,fun{w1 f P' v'} x y q o=>?_⟩;obtain⟨A,B,C,_,i,d,u⟩:=a w1 f P' v' (upd_new x y) q o;exact⟨A,B,C,i,h.upd d (gZ h.good (bK (gZ p q))) u⟩
def hdT2(p:nj×Option Value):List Th:= [iT p.1.depth,match p.2 with|some u=>hN u|none=>kK p.1.holds]
def SrcN(w:World)(L:List iD)(u:Value):Prop:=∃A c,u= .slice A L.length c/\ed w A (L.flatMap gD)
theorem SrcN.an{L:List iD}{u:Value}(h:SrcN w L u)(a:ad [] w w1):SrcN w1 L u:=by
 obtain⟨A,c,rfl,b⟩:=h;exact⟨A,c,rfl,b.an a.below⟩
theorem src_hands{L:List nj}{x:Value}(h:ij L w F x):∃(A:Option Addr) (c:Nat) (us:List Value),x= .slice A L.length c/\us.length=L.length/\(∀ (i:Nat) (d:nj) (u:Value),L[i]? =some d->us[i]? =some u->SrcN w d.holds u)/\
  ed w A ((L.zip us).flatMap λp=> [Value.int .i64 p.1.depth,p.2]):=by
 obtain⟨A,c,xs,I,rfl,s,J,o,_⟩:=aL.rd h;have at':∀(i:Nat) (d:nj),L[i]? =some d->∃u l,xs[i*2+0]? =some (bS d.depth)/\xs[i*2+1]? =some u/\kK d.holds w l u:=by
  intro i d a;have g:=(ce.1 a).1;have t:=ba (f:=hdT) (z:=2) (λ_=>rfl) L i d a 0 dy;have y:=ba (f:=hdT) (z:=2) (λ_=>rfl) L i d a 1 dy;obtain⟨K,m⟩:∃v,xs[i*2+0]? =some v:=⟨_,bZ dy⟩
  obtain⟨B,b⟩:∃v,xs[i*2+1]? =some v:=⟨_,bZ dy⟩
  have C:=o.each _ _ _ t m;have D:=o.each _ _ _ y b;exact⟨B,_,by rw[m,C.1],b,D⟩
 refine⟨A,c,(List.range L.length).map λi=>xs.getD (i*2+1) (.bool false),rfl,by simp,λi d u a q=>?_,?_⟩
 ·obtain⟨n,l,_,b,r⟩:=at' i d a;have g:=(ce.1 a).1;rw[cM,List.getElem?_range g]at q;have:u=n:=by
   have e:=Option.some.inj q;rw[<- e];simp only[cu,b];rfl
  subst this;exact names_sh ⟨l,r⟩
 ·have e:((L.zip ((List.range L.length).map λi=>xs.getD (i*2+1) (.bool false))).flatMap λp=> [Value.int .i64 p.1.depth,p.2])=xs:=by
   apply List.ext_getElem?;intro j;have E:((L.zip ((List.range L.length).map λi=>xs.getD (i*2+1) (.bool false))).flatMap λp=> [Value.int .i64 p.1.depth,p.2]).length=L.length*2:=by
    rw[bN (z:=2) (λp=>rfl)];simp
   rcases cZ j (L.length*2)with hj|hj
   ·obtain⟨i,k,rfl,G⟩:∃i k,j=i*2+k/\k<2:=⟨j/2,j%2,dy,dy⟩
    have g:i<L.length:=dy;have a:L[i]? =some L[i]:=bZ g;obtain⟨n,l,m,b,r⟩:=at' i _ a;have H:(L.zip ((List.range L.length).map λi=>xs.getD (i*2+1) (.bool false)))[i]? =some (L[i],n):=by
     rw[List.getElem?_zip_eq_some];refine⟨a,?_⟩;rw[cM,List.getElem?_range g];simp[cu,b]
    rw[ba (f:=λp:nj×Value=> [Value.int .i64 p.1.depth,p.2]) (z:=2) (λ_=>rfl) _ i _ H k G];have:k=0\/k=1:=dy;rcases this with rfl|rfl
    ·exact m.symm
    ·exact b.symm
   ·rw[df dy,df dy]
  rw[e];exact s
end
section
variable{W w w1:World}{g g3:Nat}{m:dv}{F:Fp}
def mG(L:List (nj×Option Value)):Th:=aL 136 2 L.length (L.flatMap hdT2)
def tG(m:dv)(sT:Th)(a:Th)(hT:Th):List Th:=(dK m.c).map hN++ [hN (.bool m.loose),sT,a,hT]
theorem mdT2_full(m:dv):tG m (jd m.slots) (km m.rgs) (ij m.hands)=mdT m:=rfl
theorem good_md2{m:dv}{sT a hT:Th}(c:dO sT)(d:dO a)(e:dO hT):∀P∈tG m sT a hT,dO P:=λP f=>by
 rcases List.mem_append.1 f with h|h
 ·refine fZ (λu b=>?_) P h;simp only[dK,dg,dk,or_false]at b;rcases b with rfl|rfl|rfl|rfl|rfl|rfl<;>exact⟨_,_,rfl⟩
 ·simp only[dg,dk,or_false]at h;rcases h with rfl|rfl|rfl|rfl
  ·exact fN ⟨rfl,rfl⟩
  ·exact c
  ·exact d
  ·exact e
theorem mdT2_s(m:dv)(a b c a':Th):(tG m a b c).set 7 a'=tG m a' b c:=rfl
theorem mdT2_r(m:dv)(a b c d:Th):(tG m a b c).set 8 d=tG m a d c:=rfl
theorem mdT2_h(m:dv)(a b c d:Th):(tG m a b c).set 9 d=tG m a b d:=rfl
theorem cp_first(I:jP w g m F):∃(s rv hv:Value) (xs:List Value),hp w g=some (.cells xs.toArray 90)/\xs.length=10/\(xs.toArray.toList.all (·.oneCell')=true)/\(∃ i,jd m.slots w i s)/\(∃ Fr,km m.rgs w Fr rv)/\(∃ Fh,ij m.hands w Fh hv)/\
  ∀{w1:World} {b:Nat},ad [] w w1->w.heap.size<=b->hp w1 b=some (.cells xs.toArray 90)->tV w w1 90 b (tG m (hN s) (hN rv) (hN hv)) (λk=>k=b):=by
 obtain⟨xs,i,A,a,O,P⟩:=I;have B:xs.length=10:=by rw[<- a.len];rfl
 obtain⟨j,x1,l,n,o,p,q,d,e,f,rfl⟩:∃j x1 l n o p q d e f,xs= [j,x1,l,n,o,p,q,d,e,f]:=by
  match xs,B with
  | [j,x1,l,n,o,p,q,d,e,f],_=>exact⟨_,_,_,_,_,_,_,_,_,_,rfl⟩
 have C:j=bS m.c.1:=(a.each 0 _ _ rfl rfl).1;have D:x1=bS m.c.2.1:=(a.each 1 _ _ rfl rfl).1;have E:l=bS m.c.2.2.1:=(a.each 2 _ _ rfl rfl).1;have G:n=bS m.c.2.2.2.1:=(a.each 3 _ _ rfl rfl).1;have H:o=bS m.c.2.2.2.2.1:=(a.each 4 _ _ rfl rfl).1;have J:p=bS m.c.2.2.2.2.2:=(a.each 5 _ _ rfl rfl).1;have K:q= .bool m.loose:=(a.each 6 _ _ rfl rfl).1;have t:jd m.slots w (i 7) d:=a.each 7 _ _ rfl rfl;have u:km m.rgs w (i 8) e:=a.each 8 _ _ rfl rfl;have v:ij m.hands w (i 9) f:=a.each 9 _ _ rfl rfl;have x:=(oq _).one t;have y:=(ss _).one u;have z:=(qE _).one v;subst C D E G H J K;refine⟨d,e,f,_,A,rfl,?_,⟨_,t⟩,⟨_,u⟩,⟨_,v⟩,fun{w1 b} L hb r=>?_⟩
 ·simp[Value.oneCell'];exact⟨x.2,y.2,z.2⟩
 ·refine⟨L,⟨_,λ_=>ck,r,fu.ofFlat [bS m.c.1,bS m.c.2.1,bS m.c.2.2.1,bS m.c.2.2.2.1,bS m.c.2.2.2.2.1,bS m.c.2.2.2.2.2,.bool m.loose,d,e,f],fun⟨_,_,h⟩=>h.elim,λk=>⟨λh=> .inl h,λh=>by rcases h with h|⟨_,_,h⟩;exact h;exact h.elim⟩⟩,good_md2 (fN x) (fN y) (fN z),λk M=>by rw[M];exact hb⟩
theorem hands2_done{L:List (nj×Option Value)}(f:L.length=m.hands.length)(c:∀(j:Nat) (p:nj×Option Value),L[j]? =some p->m.hands[j]? =some p.1/\p.2=none):mG L=ij m.hands:=by
 have e:L=m.hands.map λd=>(d,none):=by
  apply List.ext_getElem?;intro j;rcases cZ j L.length with hj|hj
  ·obtain⟨a,b⟩:=c j _ (bZ hj);rw[cM,a,bZ hj,Option.map_some];exact congrArg some (Prod.ext rfl b)
  ·rw[df hj,df (by simpa using(by omega:m.hands.length<=j))]
 subst e;rw[mG,ij,List.length_map,List.flatMap_map];rfl
theorem good_hd2(L:List (nj×Option Value))(h:∀p∈L,∀u,p.2=some u->u.cells= #[u]/\u.oneCell'=true):∀P∈L.flatMap hdT2,dO P:=λP c=>by
 obtain⟨p,hp,b⟩:=List.mem_flatMap.1 c;simp only[hdT2,dg,dk,or_false]at b;rcases b with rfl|rfl
 ·exact bH _ _
 ·cases a:p.2 with
  |none=>exact kL _
  |some u=>exact fN (h p hp u a)
theorem l_copy0{K:Nat}(Wm:Wf m K)(hK:K<=1000000){sT rT:Th}{Q:Value->World->Prop}(hn:m.hands.length<=1000000)
  (N:∀w F,tV W w 90 g3 (tG m sT rT (ij m.hands)) F->P66_0 (bU g) (bU g3) (bS m.hands.length) (bS m.hands.length) w Q):
  ∀(t i:Nat) (w:World) (F:Fp) (L:List (nj×Option Value)),i+t=m.hands.length->L.length=m.hands.length->tV W w 90 g3 (tG m sT rT (mG L)) F->
   (∀ (j:Nat) (p:nj×Option Value),L[j]? =some p->m.hands[j]? =some p.1/\(j<i->p.2=none)/\(i<=j->∃u,p.2=some u/\SrcN W p.1.holds u))->
   P66_0 (bU g) (bU g3) (bS m.hands.length) (bS i) w Q
 |0,i,w,F,L,hi,J,C,B=>by
  have e:i=m.hands.length:=dy;subst e;rw[hands2_done J λj p hp=>⟨(B j p hp).1,(B j p hp).2.1 (by have:=(ce.1 hp).1;omega)⟩]at C;exact N w F C
 |t+1,i,w,F,L,hi,J,C,B=>by
  apply L66_0_ok;have M:(i:Int)<m.hands.length:=dy;obtain⟨p,r⟩:∃p,L[i]? =some p:=⟨_,bZ dy⟩
  obtain⟨O,_,h2⟩:=B i p r;obtain⟨u,s,hS⟩:=h2 (cy _);obtain⟨d,q⟩:=p;simp only at s O hS;subst s;have gq:∀Q∈L.flatMap hdT2,dO Q:=good_hd2 L λp hp u s=>by
   obtain⟨j,P⟩:=dr hp;obtain⟨_,a,b⟩:=B j p P;rcases cZ j i with h|h
   ·rw[a h]at s;cases s
   ·obtain⟨u',e1,A,c,rfl,_⟩:=b h;rw[e1]at s;cases s;exact⟨rfl,rfl⟩
  have Cd:=C.an (ad.refl [] w).drew;have P:(L.flatMap hdT2)[i*2+1]? =some (hN u):=ba (f:=hdT2) (z:=2) (λ_=>rfl) L i _ r 1 dy;obtain⟨b,c,v,Fk,R,_,hv,S,D⟩:=Cd.row (k:=9) (e':=136) (z:=2) (n:=L.length) (Qs:=L.flatMap hdT2) rfl gq P;rw[S.1]at hv;obtain⟨A,ca,rfl,hR⟩:=hS.an Cd.aw;rw[J]at R;have T:ao (hp w g3) (0+9)=some (.slice (some ⟨b,0,none⟩) m.hands.length c):=R;have U:ao (hp w b) (i*2+1)=some (.slice A d.holds.length ca):=hv;have ia:=ia_88 (b:=b) (p:=0) (n:=m.hands.length) (c:=c) (j:= .i64) (i:=(i:Int)) dy dy;rw[cq,cV]at ia;have hD:=Wm.hd d (cD O);simp only[L66_0,zS,M,qx,ld_88,T,ia,mL,ld_134,U];repeat' (with_reducible apply And.intro)
  all_goals
   refine(c_clName hR (bN (enc:=gD) (z:=2) (λ_=>rfl) d.holds) (λx hx=>by obtain⟨k,y,rfl⟩:=qD _ x hx;rfl) dy).mono ?_;rintro v2 w2 ⟨ho,c2⟩;obtain⟨V,E,rfl,_,G,_⟩:=aG ho;have hT:kK d.holds w2 (λb=>(Value.slice V d.holds.length E).ownBlock=some b) (.slice V d.holds.length E):=gW ho;obtain⟨ok,s1,s2,F1,X⟩:=D c2 (λk Y=>by
    cases V with
    |none=>simp[Value.ownBlock]at Y
    |some p=>simp[Value.ownBlock]at Y;rw[<- Y];exact(G p rfl).1) (kL _) hT
   have Z:=bu c2 (show ao (hp w.drew g3) (0+9)=_ from R);try simp only[zS,Z,ia,mL]
   try simp only[zS,ia,mL]
   rw[st_134 (o:=i*2+1) s1 s2 ok];apply L66_1_ok;simp only[L66_1,zS,aj,ap (n:=(i:Int)+1) dy dy];have H:(L.flatMap hdT2).set (i*2+1) (kK d.holds)=(L.set i (d,none)).flatMap hdT2:=gA (f:=hdT2) (z:=2) (λ_=>rfl) dy (x':=(d,none)) rfl r;rw[H,mdT2_h]at X;have e2:aL 136 2 L.length ((L.set i (d,none)).flatMap hdT2)=mG (L.set i (d,none)):=by rw[mG,cE]
   rw[e2]at X;have:=l_copy0 Wm hK hn N t (i+1) _ F1 (L.set i (d,none)) dy (by rw[cE];exact J) X λj p l=>by
    by_cases I:i=j
    ·subst I;rw[cU,bX rfl,bX dy]at l;cases l;exact⟨O,λ_=>rfl,λh=>dy⟩
    ·rw[cU,bY I]at l;obtain⟨a,b',c'⟩:=B j p l;exact⟨a,λh=>b' dy,λh=>c' dy⟩
   rw[db i 1]at this;exact this
end
section
variable{W w w1:World}{g g3:Nat}{m:dv}{F:Fp}
theorem chg_put{wA wC:World}(a:ad [] wA wC){b:Nat}(hb:b<wA.heap.size)(X:Array Value)(e:TypeId):ad [] (put wA b X e) (put wC b X e):=by
 have f:=a.size;refine⟨a.os,a.tape,a.output,by simpa using f,λk g _=>?_⟩;have c:k<wA.heap.size:=by simpa using g
 by_cases d:k=b
 ·subst d;rw[aq dy,aq hb]
 ·rw[aV d,aV d];exact a.block k c (by simp)
def SrcI(w:World)(L:List Int)(u:Value):Prop:=∃A c,u= .slice A L.length c/\ed w A (ints L)
def SrcU(w:World)(L:List Int)(u:Value):Prop:=∃A c,u= .slice A L.length c/\ed w A (fE L)
def SrcO(w:World)(L:List eF)(u:Value):Prop:=∃A c,u= .slice A L.length c/\ed w A (L.flatMap bB)
def SrcW(w:World)(L:List (List Int))(u:Value):Prop:=∃(A:Option Addr) (c:Nat) (vs:List Value),u= .slice A L.length c/\vs.length=L.length/\ed w A vs/\∀(i:Nat) (l:List Int) (v:Value),L[i]? =some l->vs[i]? =some v->SrcU w l v
theorem SrcU.an{L:List Int}{u:Value}(h:SrcU w L u)(a:ad [] w w1):SrcU w1 L u:=by
 obtain⟨A,c,rfl,b⟩:=h;exact⟨A,c,rfl,b.an a.below⟩
theorem src_ints{L:List Int}{x:Value}(h:eP L w F x):SrcI w L x:=by
 obtain⟨a,_⟩:=fD h;obtain⟨A,c,e,r,_⟩:=aG a;exact⟨A,c,e,r⟩
theorem src_word{L:List Int}{x:Value}(h:jA L w F x):SrcU w L x:=by
 obtain⟨a,_⟩:=fD h;obtain⟨A,c,e,r,_⟩:=aG a;exact⟨A,c,e,r⟩
theorem src_words{L:List (List Int)}{x:Value}(h:eG L w F x):SrcW w L x:=by
 obtain⟨A,c,xs,e,rfl,a,f,b,_⟩:=aL.rd h;refine⟨A,c,xs,rfl,dy,a,λi l v d hv=>?_⟩;exact src_word (b.each i (jA l) v (by rw[cM,d];rfl) hv)
structure SrcR(w:World)(r:eO)(u:Value×Value×Value):Prop where
 sc:SrcI w r.chunks u.1
 sw:SrcW w r.words u.2.1
 so:SrcO w r.objs u.2.2
def rgC2(p:eO×Value×Value×Value):List Value:= [bS p.1.nm.1,bS p.1.nm.2,bS p.1.cls,bS p.1.off,p.2.1,p.2.2.1,p.2.2.2]
theorem src_rgs{L:List eO}{x:Value}(h:km L w F x):∃(A:Option Addr) (c:Nat) (us:List (Value×Value×Value)),x= .slice A L.length c/\us.length=L.length/\(∀ (i:Nat) (r:eO) (u:Value×Value×Value),L[i]? =some r->us[i]? =some u->SrcR w r u)/\
  ed w A ((L.zip us).flatMap rgC2):=by
 obtain⟨A,c,xs,C,rfl,D,hl,E,_⟩:=aL.rd h;have at':∀(i:Nat) (r:eO),L[i]? =some r->∀k,k<7->∃v P,xs[i*7+k]? =some v/\(rgT r)[k]? =some P/\P w (C (i*7+k)) v:=by
  intro i r a k d;have g:=(ce.1 a).1;have G:=ba (f:=rgT) (z:=7) (λ_=>rfl) L i r a k d;obtain⟨v,hv⟩:∃v,xs[i*7+k]? =some v:=⟨_,bZ dy⟩
  obtain⟨P,l⟩:∃P,(rgT r)[k]? =some P:=⟨_,bZ (by simpa [rgT]using d)⟩
  exact⟨v,P,hv,l,E.each _ _ _ (G.trans l) hv⟩
 have m:∀(i:Nat) (r:eO),L[i]? =some r->∃u:Value×Value×Value,SrcR w r u/\∀k,k<7->xs[i*7+k]? =(rgC2 (r,u))[k]? :=by
  intro i r a;obtain⟨v0,P0,s,H,I⟩:=at' i r a 0 dy;obtain⟨v1,P1,x1,p1,J⟩:=at' i r a 1 dy;obtain⟨v2,P2,t,p2,K⟩:=at' i r a 2 dy;obtain⟨v3,P3,y,p3,M⟩:=at' i r a 3 dy;obtain⟨O,P4,Q,p4,R⟩:=at' i r a 4 dy;obtain⟨S,P5,T,p5,U⟩:=at' i r a 5 dy;obtain⟨V,P6,W,p6,X⟩:=at' i r a 6 dy;cases H;cases p1;cases p2;cases p3;cases p4;cases p5;cases p6;rw[I.1]at s;rw[J.1]at x1;rw[K.1]at t;rw[M.1]at y;refine⟨(O,S,V),⟨src_ints R,src_words U,objs_sh ⟨_,X⟩⟩,λk d=>?_⟩;have:k=0\/k=1\/k=2\/k=3\/k=4\/k=5\/k=6:=dy;rcases this with rfl|rfl|rfl|rfl|rfl|rfl|rfl
  ·exact s
  ·exact x1
  ·exact t
  ·exact y
  ·exact Q
  ·exact T
  ·exact W
 have o:∃us:List (Value×Value×Value),us.length=L.length/\∀(i:Nat) (r:eO) (u:Value×Value×Value),L[i]? =some r->us[i]? =some u->SrcR w r u/\∀k,k<7->xs[i*7+k]? =(rgC2 (r,u))[k]? :=by
  refine⟨List.ofFn λi:Fin L.length=>Classical.choose (m i.1 L[i.1] (bZ i.2)),by simp,λi r u a b=>?_⟩;have g:=(ce.1 a).1;have q:L[i]=r:=by rw[bZ g]at a;exact Option.some.inj a
  subst q;rw[List.getElem?_ofFn,dif_pos g]at b;rw[<- Option.some.inj b];exact Classical.choose_spec (m i L[i] (bZ g))
 obtain⟨us,n,B⟩:=o;refine⟨A,c,us,rfl,n,λi r u a b=>(B i r u a b).1,?_⟩;have e:(L.zip us).flatMap rgC2=xs:=by
  apply List.ext_getElem?;intro j;have Y:((L.zip us).flatMap rgC2).length=L.length*7:=by
   rw[bN (z:=7) (λp=>rfl)];simp[n]
  rcases cZ j (L.length*7)with hj|hj
  ·obtain⟨i,k,rfl,d⟩:∃i k,j=i*7+k/\k<7:=⟨j/7,j%7,dy,dy⟩
   have g:i<L.length:=dy;have a:L[i]? =some L[i]:=bZ g;have b:us[i]? =some (us[i]' dy):=bZ dy;have Z:(L.zip us)[i]? =some (L[i],us[i]' dy):=by
    rw[List.getElem?_zip_eq_some];exact⟨a,b⟩
   rw[ba (f:=rgC2) (z:=7) (λ_=>rfl) _ i _ Z k d];exact((B i _ _ a b).2 k d).symm
  ·rw[df dy,df dy]
 rw[e];exact D
def oI(p:List Int×Option Value):Th:=match p.2 with|some u=>hN u|none=>jA p.1
inductive WSt where
 |old (u:Value)
 |new (L:List (List Int×Option Value))
def wsT(r:eO):WSt->Th
 | .old u=>hN u
 | .new L=>aL 139 1 L.length (L.map oI)
structure RgS where
 r:eO
 oc:Option Value
 ow:WSt
 oo:Option Value
def lU(p:RgS):List Th:= [iT p.r.nm.1,iT p.r.nm.2,iT p.r.cls,iT p.r.off,match p.oc with|some u=>hN u|none=>eP p.r.chunks,wsT p.r p.ow,match p.oo with|some u=>hN u|none=>lH p.r.objs]
def oJ(L:List RgS):Th:=aL 99 7 L.length (L.flatMap lU)
end
section
variable{W w wA wB wC:World}{g3:Nat}{Ps:List Th}{F:Fp}
theorem jI(w:World)(b:Nat)(c a:Array Value)(e e':TypeId):put (put w b c e) b a e'=put w b a e':=by
 unfold Ev.put;simp[Array.setIfInBounds_setIfInBounds]
theorem ldC_lt{w:World}{b j:Nat}{v:Value}(h:ao (hp w b) j=some v):b<w.heap.size:=by
 rcases cZ b w.heap.size with h1|h1
 ·exact h1
 ·have a:hp w b=none:=by simp[hp];omega
  rw[a]at h;cases h
theorem tV.next{e:TypeId}{k:Nat}{e':TypeId}{z n:Nat}{Qs:List Th}{b:Nat}{X:Array Value}{a:TypeId}(C:tV W (put wA b X a) e g3 Ps F)(g:Ps[k]? =some (aL e' z n Qs))(u:∀Q∈Qs,dO Q){j:Nat}{P:Th}(w:Qs[j]? =some P)
  (hb:b<wA.heap.size) (i:b≠g3) {c:Nat} (x:ao (hp wA g3) k=some (.slice (some ⟨b,0,none⟩) n c)) (m:ad [] wA wB) {o:Fp} {P':Th} {v':Value} (p:∀k,o k->wA.heap.size<=k) (q:dO P') (hv:P' wB o v'):
  mX (some (.cells X a)) (j+1)=true/\v'.cells= #[v']/\v'.oneCell'=true/\∃l,tV W (put wB b (X.setIfInBounds j v') a) e g3 (Ps.set k (aL e' z n (Qs.set j P'))) l:=by
 obtain⟨B,D,v,E,f,_,_,_,d⟩:=C.row g u w;rw[aV i.symm,x]at f;cases f;have G:=m.size;have r:hp (put wB b X a) b=some (.cells X a):=aq dy _ _;obtain⟨s,y,A,l,t⟩:=d (w1:=put wB b X a) (chg_put m hb X a) (λk g=>by simpa using p k g) q (q.frame hv (aW.put wB b X a) (λk f H=>by have:=p k f;omega));rw[r]at s;rw[r,ay,ar,jI]at t;exact⟨s,y,A,l,t⟩
theorem tV.three{e:TypeId}{k:Nat}{e':TypeId}{z n:Nat}{Qs:List Th}(C:tV W w e g3 Ps F)(A:Ps[k]? =some (aL e' z n Qs))(i:∀Q∈Qs,dO Q){a d f:Nat}{P1 E G:Th}(h1:Qs[a]? =some P1)(h2:Qs[d]? =some E)(h3:Qs[f]? =some G)(H:a≠d)(I:a≠f)(J:d≠f)
  (l:ad [] w wA) (K:ad [] wA wB) (cC:ad [] wB wC) {F1 F2 F3:Fp} {L M O:Th} {B v2 v3:Value} (f1:∀k,F1 k->w.heap.size<=k) (f2:∀k,F2 k->wA.heap.size<=k) (f3:∀k,F3 k->wB.heap.size<=k)
  (R:dO L) (g2:dO M) (S:dO O) (t1:L wA F1 B) (t2:M wB F2 v2) (t3:O wC F3 v3):
  ∃(b c:Nat) (X:Array Value) (D:TypeId),ao (hp w g3) k=some (.slice (some ⟨b,0,none⟩) n c)/\b≠g3/\(∃ v,ao (hp w b) a=some v/\∃m,P1 w m v)/\(∃ v,ao (hp w b) d=some v/\∃m,E w m v)/\(∃ v,ao (hp w b) f=some v/\∃m,G w m v)/\
   dG (hp w b)=X/\dH (hp w b)=D/\mX (hp w b) (a+1)=true/\mX (some (.cells (X.setIfInBounds a B) D)) (d+1)=true/\mX (some (.cells ((X.setIfInBounds a B).setIfInBounds d v2) D)) (f+1)=true/\
   ∃F',tV W (put wC b (((X.setIfInBounds a B).setIfInBounds d v2).setIfInBounds f v3) D) e g3 (Ps.set k (aL e' z n (((Qs.set a L).set d M).set f O))) F':=by
 have o:=(ce.1 A).1;obtain⟨b,c,v,Fk,p,g,q,hv,r⟩:=C.row A i h1;obtain⟨b2,c2,T,a3,s,_,t,U,_⟩:=C.row A i h2;rw[p]at s;cases s;obtain⟨b3,c3,V,a4,u,_,x,Y,_⟩:=C.row A i h3;rw[p]at u;cases u;have hb:=ldC_lt q;have Z:hp wA b=hp w b:=l.block b hb (by simp);obtain⟨y,_,_,Fa,Ca⟩:=r l f1 R t1;rw[Z]at y Ca;have sA:=l.size;have sB:=K.size;obtain⟨a1,_,_,Fb,Cb⟩:=Ca.next (wB:=wB) (List.getElem?_set_self o) (gZ i R) (j:=d) (P:=E) (by rw[List.getElem?_set_ne H];exact h2) dy g (bu l p) K f2 g2 t2
 rw[List.set_set]at Cb;obtain⟨a2,_,_,Fc,Cc⟩:=Cb.next (wB:=wC) (List.getElem?_set_self o) (gZ (gZ i R) g2) (j:=f) (P:=G) (by rw[List.getElem?_set_ne J,List.getElem?_set_ne I];exact h3) dy g (bu K (bu l p)) cC f3 S t3
 rw[List.set_set]at Cc;exact⟨b,c,_,_,p,g,⟨v,q,_,hv⟩,⟨T,t,_,U⟩,⟨V,x,_,Y⟩,rfl,rfl,y,a1,a2,Fc,Cc⟩
end
section
variable{W w w1:World}{g3:Nat}{Ps:List Th}{F:Fp}{m:dv}
theorem tV.inner{e:TypeId}(h:tV W w e g3 Ps F){k:Nat}{e':TypeId}{z n:Nat}{Qs:List Th}(J:Ps[k]? =some (aL e' z n Qs))(D:∀Q∈Qs,dO Q){j:Nat}{E:TypeId}{G r:Nat}{p:List Th}(K:Qs[j]? =some (aL E G r p))(H:∀R∈p,dO R){l:Nat}{P:Th}(L:p[l]? =some P):
  ∃(b c a s:Nat) (v:Value) (t:Fp),ao (hp w g3) k=some (.slice (some ⟨b,0,none⟩) n c)/\ao (hp w b) j=some (.slice (some ⟨a,0,none⟩) r s)/\ao (hp w a) l=some v/\P w t v/\a≠b/\a≠g3/\
   ∀{w1:World} {q:Fp} {P':Th} {v':Value},ad [] w w1->(∀ k,q k->w.heap.size<=k)->dO P'->P' w1 q v'->mX (hp w1 a) (l+1)=true/\v'.cells= #[v']/\v'.oneCell'=true/\
    ∃u,tV W (put w1 a ((dG (hp w1 a)).setIfInBounds l v') (dH (hp w1 a))) e g3 (Ps.set k (aL e' z n (Qs.set j (aL E G r (p.set l P'))))) u:=by
 obtain⟨b,c,rv,Fr,M,_,_,_,x,y,A,O,d,_⟩:=dV.row h.I h.good J D K;obtain⟨a,s,v,t,S,f,_,_,g,hv,_,B⟩:=aL.cell O H L;subst S;refine⟨b,c,a,s,v,t,M,A,g,hv,λe=>x (e▸f),λe=>y (e▸f),fun{w1 q P' v'} T U C i=>?_⟩;obtain⟨ok,u,m,o⟩:=B w1 q P' v' (upd_new T U) C i;obtain⟨V,X,u2⟩:=d _ u _ o m;obtain⟨Y,Z⟩:=C.one i;exact⟨ok,Y,Z,V,h.upd X (gZ h.good (bK (gZ D (bK (gZ H C))))) u2⟩
theorem words2_done(L:List (List Int)):aL 139 1 (L.map λl=>(l,(none:Option Value))).length ((L.map λl=>(l,(none:Option Value))).map oI)=eG L:=by
 rw[List.length_map,List.map_map];rfl
def tW(r:eO):RgS:=⟨r,none,.new (r.words.map λl=>(l,none)),none⟩
theorem doneR_T(r:eO):lU (tW r)=rgT r:=by
 have e:wsT r (tW r).ow=eG r.words:=words2_done r.words;simp only[lU,rgT,tW]at e⊢;rw[e]
theorem rgs2_done{L:List RgS}(d:L.length=m.rgs.length)(c:∀(j:Nat) (p:RgS),L[j]? =some p->∃r,m.rgs[j]? =some r/\p=tW r):oJ L=km m.rgs:=by
 have e:L=m.rgs.map tW:=by
  apply List.ext_getElem?;intro j;rcases cZ j L.length with hj|hj
  ·obtain⟨r,a,b⟩:=c j _ (bZ hj);rw[cM,a,bZ hj,Option.map_some,b]
  ·rw[df hj,df (by simpa using(by omega:m.rgs.length<=j))]
 subst e;rw[oJ,km,List.length_map,List.flatMap_map];congr 1;exact congrArg (λf=>m.rgs.flatMap f) (funext doneR_T)
end
section
variable{W w w1:World}{g g3:Nat}{m:dv}{F:Fp}
theorem good_ws2(L:List (List Int×Option Value))(h:∀p∈L,∀u,p.2=some u->u.cells= #[u]/\u.oneCell'=true):∀P∈L.map oI,dO P:=λP b=>by
 obtain⟨p,hp,rfl⟩:=List.mem_map.1 b;unfold oI;cases a:p.2 with
 |none=>exact ga _
 |some u=>exact fN (h p hp u a)
theorem l_copy4{sT hT:Th}{Q:Value->World->Prop}{n i:Nat}{r:eO}{b c V Z:Nat}{L0:List RgS}(H:r.words.length<=1000000)(I:∀l∈r.words,l.length<=1000000)(a1:(i:Int)+1<1000000000)
  (N:∀w F L,tV W w 90 g3 (tG m sT (oJ L) hT) F->L.length=n->L[i]? =some (tW r)->(∀ j,j≠i->L[j]? =L0[j]?)->P66_2 (bU g3) (bS n) (bS ((i:Int)+1)) w Q):
  ∀(t kk:Nat) (w:World) (F:Fp) (L:List RgS) (d:List (List Int×Option Value)),kk+t=r.words.length->tV W w 90 g3 (tG m sT (oJ L) hT) F->L.length=n->(∀ Q∈L.flatMap lU,dO Q)->L[i]? =some ⟨r,none,.new d,none⟩->d.length=r.words.length->(∀ j,j≠i->L[j]? =L0[j]?)->
   (∀ (j:Nat) (p:List Int×Option Value),d[j]? =some p->r.words[j]? =some p.1/\(j<kk->p.2=none)/\(kk<=j->∃u,p.2=some u/\SrcU W p.1 u))->
   ao (hp w g3) 8=some (.slice (some ⟨b,0,none⟩) n c)->ao (hp w b) (i*7+5)=some (.slice (some ⟨V,0,none⟩) r.words.length Z)->
   P66_4 (bU g3) (.pointer (some ⟨b,i*7,none⟩)) (bS n) (bS i) (.slice (some ⟨V,0,none⟩) r.words.length Z) (bS r.words.length) (bS kk) w Q
 |0,kk,w,F,L,d,J,C,X,gL,s,E,hO,K,h8,Y=>by
  apply L66_4_ok;have:¬(kk:Int)<r.words.length:=dy;simp only[L66_4,zS,this,aj,ap (n:=(i:Int)+1) dy dy];refine N w F L C X ?_ hO;have e:d=r.words.map λl=>(l,none):=by
   apply List.ext_getElem?;intro j;rcases cZ j d.length with hj|hj
   ·obtain⟨a,b',_⟩:=K j _ (bZ hj);rw[cM,a,bZ hj,Option.map_some];exact congrArg some (Prod.ext rfl (b' dy))
   ·rw[df hj,df (by simpa using(by omega:r.words.length<=j))]
  rw[s,e];rfl
 |t+1,kk,w,F,L,d,J,C,X,gL,s,E,hO,K,h8,Y=>by
  apply L66_4_ok;have a2:(kk:Int)<r.words.length:=dy;obtain⟨p,M⟩:∃p,d[kk]? =some p:=⟨_,bZ dy⟩
  obtain⟨hm,_,h2⟩:=K kk p M;obtain⟨u,G,hS⟩:=h2 (cy _);obtain⟨l,q⟩:=p;simp only at G hm hS;subst G;have gw:∀Q∈d.map oI,dO Q:=good_ws2 d λp hp u G=>by
   obtain⟨j,hj⟩:=dr hp;obtain⟨_,a,b⟩:=K j p hj;rcases cZ j kk with h|h
   ·rw[a h]at G;cases G
   ·obtain⟨u',e1,A,c,rfl,_⟩:=b h;rw[e1]at G;cases G;exact⟨rfl,rfl⟩
  have Cd:=C.an (ad.refl [] w).drew;have hj:(L.flatMap lU)[i*7+5]? =some (aL 139 1 d.length (d.map oI)):=ba (f:=lU) (z:=7) (λ_=>rfl) L i _ s 5 dy;have a3:(d.map oI)[kk]? =some (hN u):=by rw[cM,M];rfl
  obtain⟨b1,c1,a9,b2,v,Fk,q8,q5,qv,a4,nb,ng,O⟩:=Cd.inner (k:=8) (e':=99) (z:=7) (n:=L.length) (Qs:=L.flatMap lU) rfl gL hj gw a3;rw[X,show ao (hp w.drew g3) 8=_ from h8]at q8;cases q8;rw[E,show ao (hp w.drew b) (i*7+5)=_ from Y]at q5;cases q5;rw[a4.1]at qv;obtain⟨A,ca,rfl,hR⟩:=hS.an Cd.aw;have a5:ao (hp w V) kk=some (.slice A l.length ca):=qv;have B:=ia_97 (b:=V) (p:=0) (n:=r.words.length) (c:=Z) (j:= .i64) (i:=(kk:Int)) dy dy;rw[cq,cV,dm]at B;simp only[L66_4,zS,a2,B,jc,a5,qy,od,Y];repeat' (with_reducible apply And.intro)
  all_goals
   refine(c_clU64s hR (by simp[fE]) (λx hx=>by obtain⟨k,y,rfl⟩:=sr _ x hx;rfl) (I l (cD hm))).mono ?_;rintro v2 w2 ⟨ho,c2⟩;obtain⟨A2,P,rfl,_,R,_⟩:=aG ho;have a6:jA l w2 (λb=>(Value.slice A2 l.length P).ownBlock=some b) (.slice A2 l.length P):=gW ho;obtain⟨ok,s1,s2,F1,C1⟩:=O c2 (λk J=>by
    cases A2 with
    |none=>simp[Value.ownBlock]at J
    |some p=>simp[Value.ownBlock]at J;rw[<- J];exact(R p rfl).1) (ga _) a6
   have S:=bu c2 (show ao (hp w.drew b) (i*7+5)=_ from Y);have a7:=bu c2 (show ao (hp w.drew g3) 8=_ from h8);try simp only[zS,S,B]
   try simp only[zS,B]
   rw[st_139 (o:=kk) s1 s2 ok];apply L66_5_ok;simp only[L66_5,zS,aj,ap (n:=(kk:Int)+1) dy dy];have ew:(d.map oI).set kk (jA l)=(d.set kk (l,none)).map oI:=by rw[List.map_set];rfl
   have T:aL 139 1 d.length ((d.set kk (l,none)).map oI)=wsT r (.new (d.set kk (l,none))):=by simp only[wsT,cE]
   have D:(L.flatMap lU).set (i*7+5) (wsT r (.new (d.set kk (l,none))))=(L.set i ⟨r,none,.new (d.set kk (l,none)),none⟩).flatMap lU:=gA (f:=lU) (z:=7) (λ_=>rfl) dy (x':=⟨r,none,.new (d.set kk (l,none)),none⟩) rfl s;have e2:aL 99 7 L.length ((L.set i ⟨r,none,.new (d.set kk (l,none)),none⟩).flatMap lU)=oJ (L.set i ⟨r,none,.new (d.set kk (l,none)),none⟩):=by rw[oJ,cE]
   rw[ew,T,D,e2,mdT2_r]at C1;have a8:=(ce.1 s).1;have:=l_copy4 H I a1 N t (kk+1) _ F1 (L.set i ⟨r,none,.new (d.set kk (l,none)),none⟩) (d.set kk (l,none)) dy C1 (by rw[cE];exact X) (by rw[<- D];exact gZ gL (by rw[<- T,<-ew];exact bK (gZ gw (ga _)))) (by rw[cU,bX rfl,bX a8]) (by rw[cE];exact E) (λj hj=>by rw[cU,bY (λh=>hj h.symm)];exact hO j hj) (λj p g=>by
    by_cases U:kk=j
    ·subst U;rw[cU,bX rfl,bX dy]at g;cases g;exact⟨hm,λ_=>rfl,λh=>dy⟩
    ·rw[cU,bY U]at g;obtain⟨a,b',c'⟩:=K j p g;exact⟨a,λh=>b' dy,λh=>c' dy⟩) (by rw[aV ng.symm];exact a7) (by rw[aV nb.symm];exact S)
   rw[db kk 1]at this;exact this
end
section
variable{W w w1:World}{g g3:Nat}{m:dv}{F:Fp}
def oldR(r:eO)(u:Value×Value×Value):RgS:=⟨r,some u.1,.old u.2.1,some u.2.2⟩
theorem good_rg2(L:List RgS)(h:∀p∈L,(∃ r,p=tW r)\/∃r u,p=oldR r u/\SrcR W r u):∀P∈L.flatMap lU,dO P:=λP b=>by
 obtain⟨p,hp,a⟩:=List.mem_flatMap.1 b;rcases h p hp with⟨r,rfl⟩|⟨r,u,rfl,d⟩
 ·rw[doneR_T]at a;exact good_rg r P a
 ·obtain⟨⟨A,c,e,_⟩,⟨A',k,vs,f,_⟩,⟨g,i,j,_⟩⟩:=d;simp only[lU,oldR,wsT,dg,dk,or_false]at a;rcases a with rfl|rfl|rfl|rfl|rfl|rfl|rfl
  ·exact bH _ _
  ·exact bH _ _
  ·exact bH _ _
  ·exact bH _ _
  ·exact fN (by rw[e];exact⟨rfl,rfl⟩)
  ·exact fN (by rw[f];exact⟨rfl,rfl⟩)
  ·exact fN (by rw[j];exact⟨rfl,rfl⟩)
theorem tw{w1:World}{e:TypeId}{z n:Nat}{v:Value}{cs:List Value}{base:Nat}(h:w1.ownsRow base e z v n cs):∀k,v.ownBlock=some k->base<=k:=λk a=>by
 obtain⟨A,c,rfl,_,b,_⟩:=aG h;cases A with
 |none=>simp[Value.ownBlock]at a
 |some p=>simp[Value.ownBlock]at a;rw[<- a];exact(b p rfl).1
theorem l_copy2{K:Nat}(Wm:Wf m K)(hK:K<=1000000){sT hT:Th}{Q:Value->World->Prop}(N:∀w F,tV W w 90 g3 (tG m sT (km m.rgs) hT) F->Q (bU g3) w):
  ∀(t i:Nat) (w:World) (F:Fp) (L:List RgS),i+t=m.rgs.length->L.length=m.rgs.length->tV W w 90 g3 (tG m sT (oJ L) hT) F->
   (∀ (j:Nat) (p:RgS),L[j]? =some p->∃r,m.rgs[j]? =some r/\(j<i->p=tW r)/\(i<=j->∃u,p=oldR r u/\SrcR W r u))->
   P66_2 (bU g3) (bS m.rgs.length) (bS i) w Q
 |0,i,w,F,L,hi,hL,C,M=>by
  apply L66_2_ok;have:¬(i:Int)<m.rgs.length:=dy;simp only[L66_2,zS,this];rw[rgs2_done hL λj p hp=>by
   obtain⟨r,a,b,_⟩:=M j p hp;exact⟨r,a,b (by have:=(ce.1 hp).1;omega)⟩]at C
  exact N w F C
 |t+1,i,w,F,L,hi,hL,C,M=>by
  apply L66_2_ok;have c7:(i:Int)<m.rgs.length:=dy;have e8:=Wm.rl;obtain⟨p,B⟩:∃p,L[i]? =some p:=⟨_,bZ dy⟩
  obtain⟨r,hm,_,h2⟩:=M i p B;obtain⟨u,rfl,hS⟩:=h2 (cy _);have gL:∀Q∈L.flatMap lU,dO Q:=good_rg2 (W:=W) L λp hp=>by
   obtain⟨j,hj⟩:=dr hp;obtain⟨r,_,a,b⟩:=M j p hj;rcases cZ j i with h|h
   ·exact .inl ⟨r,a h⟩
   ·obtain⟨u,e,s⟩:=b h;exact .inr ⟨r,u,e,s⟩
  have cd:ad [] w w.drew:=(ad.refl _ _).drew;have O:=C.an cd;obtain⟨⟨A,ca,e1,R1⟩,⟨A',g,vs,e2,c8,R2,P⟩,⟨q,d,R,R3⟩⟩:=hS;obtain⟨u1,u2,u3⟩:=u;simp only at e1 e2 R;subst e1 e2 R;have j1:(L.flatMap lU)[i*7+4]? =some (hN (.slice A r.chunks.length ca)):=ba (f:=lU) (z:=7) (λ_=>rfl) L i _ B 4 dy;have j2:(L.flatMap lU)[i*7+6]? =some (hN (.slice q r.objs.length d)):=ba (f:=lU) (z:=7) (λ_=>rfl) L i _ B 6 dy;have j3:(L.flatMap lU)[i*7+5]? =some (hN (.slice A' r.words.length g)):=ba (f:=lU) (z:=7) (λ_=>rfl) L i _ B 5 dy;obtain⟨b,c,v,Fk,h8,c9,S,d1,_⟩:=O.row (k:=8) (e':=99) (z:=7) (n:=L.length) (Qs:=L.flatMap lU) rfl gL j1;obtain⟨b2,c2,v',e9,a2,_,T,d2,_⟩:=O.row (k:=8) (e':=99) (z:=7) (n:=L.length) (Qs:=L.flatMap lU) rfl gL j2;rw[h8]at a2;cases a2;obtain⟨b3,c3,f2,e7,a3,_,U,d3,_⟩:=O.row (k:=8) (e':=99) (z:=7) (n:=L.length) (Qs:=L.flatMap lU) rfl gL j3;rw[h8]at a3;cases a3;rw[d1.1]at S;rw[d2.1]at T;rw[d3.1]at U;rw[hL]at h8;have d4:ao (hp w g3) (0+8)=some (.slice (some ⟨b,0,none⟩) m.rgs.length c):=h8;have a4:ao (hp w b) (i*7+4)=some (.slice A r.chunks.length ca):=S;have a7:ao (hp w b) (i*7+6)=some (.slice q r.objs.length d):=T;have a8:ao (hp w b) (i*7+5)=some (.slice A' r.words.length g):=U;have ia:=ia_87 (b:=b) (p:=0) (n:=m.rgs.length) (c:=c) (j:= .i64) (i:=(i:Int)) dy dy;rw[cq,cV]at ia;have hR:=Wm.rg r (cD hm);have f3:=hR.cl;have f4:=hR.ol;have f5:=hR.wl;have W2:=Wm.w2;simp only[L66_2,zS,c7,qw,ld_87,d4,ia,nD,qy,fa_99_5,aH,sh,od,a4,a8,a7];have fin:∀(wA wB wC:World) (D v2 H:Value),ad [] w.drew wA->ad [] wA wB->ad [] wB wC->wA.ownsRow w.drew.heap.size 3 1 D r.chunks.length (ints r.chunks)->wB.ownsRow wA.heap.size 32 5 v2 r.objs.length (r.objs.flatMap bB)->wC.ownsRow wB.heap.size 139 1 H r.words.length vs->
    dE prog (Instr.storeAt 22 (.pointer (some ⟨b,i*7+4,none⟩)) D) wC λw=>dE prog (Instr.storeAt 76 (.pointer (some ⟨b,i*7+6,none⟩)) v2) w λw=>dE prog (Instr.storeAt 97 (.pointer (some ⟨b,i*7+5,none⟩)) H) w λw=>P66_3 (bU g3) (.pointer (some ⟨b,i*7,none⟩)) (bS m.rgs.length) (bS i) w Q:=by
   intro wA wB wC D v2 H I cB cC o1 o2 o3;have t1:eP r.chunks wA (λb=>D.ownBlock=some b) D:=gW o1;have t2:lH r.objs wB (λb=>v2.ownBlock=some b) v2:=gW o2;have ev:(r.words.zip (vs.map some)).map oI=vs.map hN:=by
    apply List.ext_getElem?;intro j;rcases cZ j vs.length with hj|hj
    ·have hz:(r.words.zip (vs.map some))[j]? =some (r.words[j]' dy,some vs[j]):=by
      rw[List.getElem?_zip_eq_some];exact⟨bZ dy,by rw[cM,bZ hj];rfl⟩
     rw[cM,hz,cM,bZ hj];rfl
    ·rw[df (by simp;omega),df (by simpa using hj)]
   have a9:(r.words.zip (vs.map some)).length=r.words.length:=by simp[c8]
   have b1:∀x∈vs,x.cells= #[x]/\x.oneCell'=true:=λx V=>by
    obtain⟨j,hj⟩:=dr V;have d5:=(ce.1 hj).1;obtain⟨_,_,e,_⟩:=P j _ x (bZ dy) hj;rw[e];exact⟨rfl,rfl⟩
   have gv:dO (aL 139 1 r.words.length (vs.map hN)):=bK (good_flat b1);have t3:aL 139 1 r.words.length (vs.map hN) wC (λb=>H.ownBlock=some b) H:=gW o3;obtain⟨b',c',X,J,q8,_,_,_,_,hX,hE,d6,d7,b4,F',C'⟩:=O.three (k:=8) (e':=99) (z:=7) (n:=L.length) (Qs:=L.flatMap lU) rfl gL j1 j2 j3 dy dy dy I cB cC (tw o1) (tw o2) (tw o3) (bq _) (gf _) gv t1 t2 t3;rw[hL,h8]at q8;cases q8;have d8:=ldC_lt S;have Z:=(I.trans cB).trans cC;have b6:hp wC b=hp w.drew b:=Z.block b d8 (by simp);have f6:=Z.size;have s1:=(bq _).one t1;have s2:=(gf _).one t2;have s3:=gv.one t3;have b7:hp (put wC b (X.setIfInBounds (i*7+4) D) J) b=some (.cells (X.setIfInBounds (i*7+4) D) J):=aq dy _ _;have b8:hp (put wC b ((X.setIfInBounds (i*7+4) D).setIfInBounds (i*7+6) v2) J) b=some (.cells ((X.setIfInBounds (i*7+4) D).setIfInBounds (i*7+6) v2) J):=aq dy _ _;rw[sj (o:=i*7+4) s1.1 s1.2 (by rw[b6];exact d6),b6,hX,hE];rw[st_76 (o:=i*7+6) s2.1 s2.2 (by rw[b7];exact d7),b7,ay,ar,jI];rw[st_97 (o:=i*7+5) s3.1 s3.2 (by rw[b8];exact b4),b8,ay,ar,jI];have q1:=gA (f:=lU) (z:=7) (λ_=>rfl) (k:=4) (p:=eP r.chunks) dy (x:=oldR r (.slice A r.chunks.length ca,.slice A' r.words.length g,.slice q r.objs.length d)) (x':=⟨r,none,.old (.slice A' r.words.length g),some (.slice q r.objs.length d)⟩) rfl B;have a1:=(ce.1 B).1;have q2:=gA (f:=lU) (z:=7) (λ_=>rfl) (k:=6) (p:=lH r.objs) dy (x:=⟨r,none,.old (.slice A' r.words.length g),some (.slice q r.objs.length d)⟩) (x':=⟨r,none,.old (.slice A' r.words.length g),none⟩) rfl (show(L.set i ⟨r,none,.old (.slice A' r.words.length g),some (.slice q r.objs.length d)⟩)[i]? =some _ by rw[cU,bX rfl,bX a1]);have q3:=gA (f:=lU) (z:=7) (λ_=>rfl) (k:=5) (p:=wsT r (.new (r.words.zip (vs.map some)))) dy (x:=⟨r,none,.old (.slice A' r.words.length g),none⟩) (x':=⟨r,none,.new (r.words.zip (vs.map some)),none⟩) rfl (show((L.set i ⟨r,none,.old (.slice A' r.words.length g),some (.slice q r.objs.length d)⟩).set i ⟨r,none,.old (.slice A' r.words.length g),none⟩)[i]? =some _ by rw[cU,bX rfl,bX (by rw[cE];exact a1)]);have ew:aL 139 1 r.words.length (vs.map hN)=wsT r (.new (r.words.zip (vs.map some))):=by simp only[wsT,a9,ev]
   rw[q1,q2,ew,q3,List.set_set,List.set_set]at C';have e2:aL 99 7 L.length ((L.set i ⟨r,none,.new (r.words.zip (vs.map some)),none⟩).flatMap lU)=oJ (L.set i ⟨r,none,.new (r.words.zip (vs.map some)),none⟩):=by rw[oJ,cE]
   rw[e2,mdT2_r]at C';have hG:=gZ (k:=i*7+5) (gZ (k:=i*7+6) (gZ (k:=i*7+4) gL (bq r.chunks)) (gf r.objs)) gv;rw[q1,q2,ew,q3,List.set_set,List.set_set]at hG;have b9:(L.set i ⟨r,none,.new (r.words.zip (vs.map some)),none⟩)[i]? =some ⟨r,none,.new (r.words.zip (vs.map some)),none⟩:=by rw[cU,bX rfl,bX a1]
   have c1:∀j,j≠i->(L.set i ⟨r,none,.new (r.words.zip (vs.map some)),none⟩)[j]? =L[j]? :=λj hj=>by rw[cU,bY (λh=>hj h.symm)]
   have c4:(L.set i ⟨r,none,.new (r.words.zip (vs.map some)),none⟩).length=m.rgs.length:=by rw[cE];exact hL
   have E:∀(w:World) (F:Fp) (L2:List RgS),tV W w 90 g3 (tG m sT (oJ L2) hT) F->L2.length=m.rgs.length->L2[i]? =some (tW r)->(∀ j,j≠i->L2[j]? =L[j]?)->P66_2 (bU g3) (bS m.rgs.length) (bS ((i:Int)+1)) w Q:=by
    intro w F L2 C2 d9 hd e4;have:=l_copy2 Wm hK N t (i+1) w F L2 dy d9 C2 λj p hp=>by
     by_cases c5:j=i
     ·subst c5;rw[hd]at hp;cases hp;exact⟨r,hm,λ_=>rfl,λh=>dy⟩
     ·rw[e4 j c5]at hp;obtain⟨r',a,b,c⟩:=M j p hp;exact⟨r',a,λh=>b dy,λh=>c dy⟩
    rw[db i 1]at this;exact this
   have e5:∀Y,hp (put wC b Y J) b=some (.cells Y J):=λY=>aq dy _ _;have G:ao (hp (put wC b (((X.setIfInBounds (i*7+4) D).setIfInBounds (i*7+6) v2).setIfInBounds (i*7+5) H) J) b) (i*7+5)=some H:=by
    rw[aT,decide_eq_true_eq]at b4;rw[e5,aN,Array.getElem?_setIfInBounds_self_of_lt dy]
   have c6:ao (hp (put wC b (((X.setIfInBounds (i*7+4) D).setIfInBounds (i*7+6) v2).setIfInBounds (i*7+5) H) J) g3) 8=some (.slice (some ⟨b,0,none⟩) m.rgs.length c):=by
    rw[aV c9.symm];exact bu Z h8
   apply L66_3_ok;rcases o3.2 with⟨R,h0⟩|⟨gw,f7,f9,R,_⟩
   ·have e6:r.words= []:=List.length_eq_zero_iff.1 h0;rw[R]at G⊢;rw[R]at C';simp only[L66_3,zS,qy,od,G,len_97];apply L66_4_ok;simp only[L66_4,zS,aj,ap (n:=(i:Int)+1) dy dy,show¬((0:Int)<((0:Nat):Int))by decide];refine E _ F' _ C' c4 ?_ c1;rw[b9];simp only[tW,e6,List.zip_nil_left,List.map_nil]
   ·rw[R]at G c6 C'⊢;simp only[L66_3,zS,qy,od,G,len_97];refine l_copy4 (L0:=L) dy (λl M=>by have:=hR.ww l M;omega) dy E r.words.length 0 _ F' _ _ dy C' c4 hG b9 a9 c1 (λj p hp=>?_) c6 G;rw[List.getElem?_zip_eq_some]at hp;rw[cM]at hp;obtain⟨a,b⟩:=hp;obtain⟨u,hu,e⟩:=dc.1 b;exact⟨a,λh=>absurd h dy,λ_=>⟨u,e.symm,P j _ u a hu⟩⟩
  repeat'  (with_reducible apply And.intro)
  all_goals
   refine(c_clInts (R1.an O.aw.below) (by simp[ints]) (λx V=>by obtain⟨k,y,rfl⟩:=ints_int _ x V;rfl) dy).mono ?_;rintro D wA ⟨o1,I⟩;have a5:=bu I (show ao (hp w.drew b) (i*7+5)=_ from U);have a6:=bu I (show ao (hp w.drew b) (i*7+6)=_ from T);try simp only[zS,a5,a6]
   refine(c_clHandles (R3.an (O.aw.trans I).below) (bN oW r.objs) (λx V=>by obtain⟨k,y,rfl⟩:=hnC_int _ x V;rfl) dy).mono ?_;rintro v2 wB ⟨o2,cB⟩;have b5:=bu cB a5;try simp only[zS,b5]
   refine(c_clWords (R2.an ((O.aw.trans I).trans cB).below) dy (λx V=>by
    obtain⟨j,hj⟩:=dr V;have d5:=(ce.1 hj).1;obtain⟨_,_,e,_⟩:=P j _ x (bZ dy) hj;rw[e];rfl) dy).mono ?_
   rintro H wC ⟨o3,cC⟩;try simp only[zS,nD,qy,fa_99_5]
   exact fin wA wB wC D v2 H I cB cC o1 o2 o3
end
section
variable{w:World}{g:Nat}{m:dv}{F:Fp}
theorem hd2_eq(L:List nj)(us:List Value):(L.zip (us.map some)).flatMap hdT2=((L.zip us).flatMap λp=> [Value.int .i64 p.1.depth,p.2]).map hN:=by
 rw[List.zip_map_right,List.flatMap_map,List.map_flatMap];rfl
theorem rg2_eq(L:List eO)(us:List (Value×Value×Value)):((L.zip us).map λp=>oldR p.1 p.2).flatMap lU=((L.zip us).flatMap rgC2).map hN:=by
 rw[List.flatMap_map,List.map_flatMap];rfl
theorem c_mCopy{K:Nat}(I:jP w g m F)(M:Wf m K)(hK:K<=1000000)(hn:m.hands.length<=1000000):
  aa prog 66 [bU g] w λv w'=>∃g3 F',v=bU g3/\jP w' g3 m F'/\(∀ k,F' k->w.heap.size<=k)/\ad [] w w':=by
 apply F66_ok;obtain⟨sv,rv,hv,R⟩:=I.rd;obtain⟨a1,a3,a5,xs,h1,O,a6,_,_,_,f⟩:=cp_first I;have a8:=M.sl;have c6:=M.rl;have W2:=M.w2;have a9:fR prog 90 (bU g) w=some (.agg xs.toArray):=aR (t:=90) ag_90 (by rw[sz_90];simp[O]) h1;simp only[F66,ae,ac,a9,al_90];generalize B:w.alloc _=T;have ca:ad [] w T:=by rw[<- B];exact(ad.refl _ _).alloc _
 obtain⟨z,U,hz⟩:∃z:Array Value,hp T w.heap.size=some (.cells z 90)/\z.size=10:=by rw[<- B,af,bX rfl];exact⟨_,rfl,rfl⟩
 clear B;rw[st_90 (by simp[O]) a6 (by rw[U,aT];exact cj dy) (by rw[U];exact hz),U,ar];have c1:ad [] w (put T w.heap.size xs.toArray 90):=ca.put (.inr (cy _)) _ _;have C0:=f c1 (cy _) (aq (az U) _ _);generalize put T w.heap.size xs.toArray 90=w1 at*;generalize b1:w.heap.size=g3 at C0⊢;have R1:=R.an C0.aw;simp only[ac,nC,ld_86,R1.sl];obtain⟨Fs,tS⟩:=R1.sT;obtain⟨oS,_⟩:=fD tS;obtain⟨As,cS,rfl,rS,_,_⟩:=aG oS;refine(c_clSlot rS (bN (z:=2) (λ_=>rfl) m.slots) (λx d=>by obtain⟨k,y,rfl⟩:=qD _ x d;rfl) a8).mono ?_;rintro v2 w2 ⟨o2,c2⟩;obtain⟨b3,a2,b2,F2,Q⟩:=C0.cell (k:=7) (P:=hN a1) rfl (P':=jd m.slots) c2 (tw o2) (oq _) (gW o2);simp only[ac,qx];rw[st_86 (o:=0+7) a2 b2 b3];rw[mdT2_s]at Q;change tV w (put w2 g3 ((dG (hp w2 g3)).setIfInBounds (0+7) v2) (dH (hp w2 g3))) _ _ _ _ at Q;generalize put w2 g3 ((dG (hp w2 g3)).setIfInBounds (0+7) v2) (dH (hp w2 g3))=w3 at*;have R2:=R.an Q.aw;simp only[ac,ld_88,R2.hl];obtain⟨Fh,tH⟩:=R.hT;obtain⟨Ah,cH,us,rfl,C,D,rH⟩:=src_hands tH;have b5:((m.hands.zip us).flatMap λp=> [Value.int .i64 p.1.depth,p.2]).length=m.hands.length*2:=by
  rw[bN (z:=2) (λp=>rfl)];simp[C]
 refine(c_clHand (rH.an Q.aw.below) b5 (λx d=>?_) hn).mono ?_
 ·obtain⟨p,hp,d⟩:=List.mem_flatMap.1 d;simp only[dg,dk,or_false]at d;rcases d with rfl|rfl
  ·rfl
  ·obtain⟨i,a⟩:=dr hp;rw[List.getElem?_zip_eq_some]at a;obtain⟨A,c,e,_⟩:=D i _ _ a.1 a.2;rw[e];rfl
 rintro V E ⟨o4,c4⟩;have t4:mG (m.hands.zip (us.map some)) E (λb=>V.ownBlock=some b) V:=by
  have e:=gW o4;rw[<- hd2_eq]at e;have X:(m.hands.zip (us.map some)).length=m.hands.length:=by simp[C]
  unfold mG;rw[X];exact e
 have gh:dO (mG (m.hands.zip (us.map some))):=bK (good_hd2 _ λp hp u hu=>by
  obtain⟨i,a⟩:=dr hp;rw[List.getElem?_zip_eq_some,cM]at a;obtain⟨u',G,e⟩:=dc.1 a.2;rw[hu]at e;cases e;obtain⟨A,c,e,_⟩:=D i _ _ a.1 G;rw[e];exact⟨rfl,rfl⟩)
 obtain⟨b6,a4,b4,F4,C4⟩:=Q.cell (k:=9) (P:=hN a5) rfl (P':=mG (m.hands.zip (us.map some))) c4 (tw o4) gh t4;rw[st_88 (o:=0+9) a4 b4 b6];rw[mdT2_h]at C4;change tV w (put E g3 ((dG (hp E g3)).setIfInBounds (0+9) V) (dH (hp E g3))) _ _ _ _ at C4;obtain⟨v9,F9,_,_,l9,t9,_⟩:=dV.repl C4.I C4.good (k:=9) (P:=mG (m.hands.zip (us.map some))) rfl;obtain⟨A9,c9,d1,d2,e9,_⟩:=aL.rd t9;have X:(m.hands.zip (us.map some)).length=m.hands.length:=by simp[C]
 rw[X]at e9;subst e9;generalize put E g3 ((dG (hp E g3)).setIfInBounds (0+9) V) (dH (hp E g3))=w5 at*;have b8:ao (hp w5 g3) (0+9)=some (.slice A9 m.hands.length c9):=l9;simp only[ac,b8,len_88];refine l_copy0 M hK hn (λw6 F6 C6=>?_) m.hands.length 0 w5 F4 (m.hands.zip (us.map some)) dy X C4 (λj p hp=>?_)
 case refine_2=>
  rw[List.getElem?_zip_eq_some,cM]at hp;obtain⟨u',G,e⟩:=dc.1 hp.2;exact⟨hp.1,λh=>absurd h dy,λ_=>⟨u',e.symm,D j _ _ hp.1 G⟩⟩
 apply L66_0_ok;have R6:=R.an C6.aw;simp only[L66_0,zS,Int.lt_irrefl,qw,ld_87,R6.rl];obtain⟨Fr,tR⟩:=R.rT;obtain⟨Ar,cR,H,rfl,l,S,rR⟩:=src_rgs tR;have b9:((m.rgs.zip H).flatMap rgC2).length=m.rgs.length*7:=by
  rw[bN (z:=7) (λp=>rfl)];simp[l]
 refine(c_clRegion (rR.an C6.aw.below) b9 (λx d=>?_) dy).mono ?_
 ·obtain⟨p,hp,d⟩:=List.mem_flatMap.1 d;obtain⟨i,a⟩:=dr hp;rw[List.getElem?_zip_eq_some]at a;obtain⟨⟨A,c,e1,_⟩,⟨A',c',vs,e2,_⟩,⟨d3,d4,e3,_⟩⟩:=S i _ _ a.1 a.2;simp only[rgC2,dg,dk,or_false]at d;rcases d with rfl|rfl|rfl|rfl|rfl|rfl|rfl
  ·rfl
  ·rfl
  ·rfl
  ·rfl
  ·rw[e1];rfl
  ·rw[e2];rfl
  ·rw[e3];rfl
 rintro Y J ⟨o7,c7⟩;have L:((m.rgs.zip H).map λp=>oldR p.1 p.2).length=m.rgs.length:=by simp[l]
 have t7:oJ ((m.rgs.zip H).map λp=>oldR p.1 p.2) J (λb=>Y.ownBlock=some b) Y:=by
  have e:=gW o7;rw[<- rg2_eq]at e;unfold oJ;rw[L];exact e
 have n:∀(j:Nat) (p:RgS),((m.rgs.zip H).map λp=>oldR p.1 p.2)[j]? =some p->∃r u,m.rgs[j]? =some r/\p=oldR r u/\SrcR w r u:=λj p hp=>by
  rw[cM]at hp;obtain⟨q,Z,rfl⟩:=dc.1 hp;rw[List.getElem?_zip_eq_some]at Z;exact⟨q.1,q.2,Z.1,rfl,S j _ _ Z.1 Z.2⟩
 have gr:dO (oJ ((m.rgs.zip H).map λp=>oldR p.1 p.2)):=bK (good_rg2 (W:=w) _ λp hp=>by
  obtain⟨i,a⟩:=dr hp;obtain⟨r,u,_,e,s⟩:=n i p a;exact .inr ⟨r,u,e,s⟩)
 obtain⟨c3,a7,b7,F7,C7⟩:=C6.cell (k:=8) (P:=hN a3) rfl (P':=oJ ((m.rgs.zip H).map λp=>oldR p.1 p.2)) c7 (tw o7) gr t7;rw[st_87 (o:=0+8) a7 b7 c3];rw[mdT2_r]at C7;change tV w (put J g3 ((dG (hp J g3)).setIfInBounds (0+8) Y) (dH (hp J g3))) _ _ _ _ at C7;obtain⟨v8,F8,_,_,l8,t8,_⟩:=dV.repl C7.I C7.good (k:=8) (P:=oJ ((m.rgs.zip H).map λp=>oldR p.1 p.2)) rfl;obtain⟨A8,c8,d5,d6,e8,_⟩:=aL.rd t8;rw[L]at e8;subst e8;generalize put J g3 ((dG (hp J g3)).setIfInBounds (0+8) Y) (dH (hp J g3))=w8 at*;have c5:ao (hp w8 g3) (0+8)=some (.slice A8 m.rgs.length c8):=l8;simp only[ac,c5,len_87];refine l_copy2 M hK (λw9 F9 C9=>⟨g3,F9,rfl,(mdT2_full m▸C9.I:dV 90 g3 (mdT m) w9 F9),λk hk=>b1▸C9.new k hk,C9.aw⟩) m.rgs.length 0 w8 F7 _ dy L C7 (λj p hp=>?_);obtain⟨r,u,e1,e2,e3⟩:=n j p hp;exact⟨r,e1,λh=>absurd h dy,λ_=>⟨u,e2,e3⟩⟩
end
end Go.Proofs.YtnpflajdbchghaaGreat
