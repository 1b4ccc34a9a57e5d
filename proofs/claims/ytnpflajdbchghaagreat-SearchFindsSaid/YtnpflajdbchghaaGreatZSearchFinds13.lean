/- Parts of the proof of SearchFinds, one behind the other. Conditions: none. -/
import Derived.Test.YtnpflajdbchghaaGreatZSearchFinds12
set_option linter.unusedSimpArgs false
set_option linter.unusedVariables false
set_option maxHeartbeats 4000000
set_option maxRecDepth 10000
noncomputable section
namespace Go.Proofs.YtnpflajdbchghaaGreat
open Tryz(prog)
open Go Ev Go.RowKit
section
variable{w w0 w1 w2 w':World}{T T1 T2 T':dN}{h:Hm}{c:cP}{m m':bI}{o o' b sb lb k ab tb q kb fb eb:Nat}{es es':List TypeId}{su:lO}{f:FrV}{kv pv gv:Value}
def frA(b:Nat)(f:FrV)(a kv pv gv:Value):Array Value:= #[ptr b,bS f.at',bS f.steps,bS f.point,bS f.back,bS f.tag,a,kv,pv,gv,bS f.code,.bool f.done]
def frN(o b:Nat)(f:FrV)(a kv pv gv:Value):Nod:= .st o 243 ((frA b f a kv pv gv).toList.map fQ.v)
structure FrF(w:World)(fb b:Nat)(f:FrV)(ev kv pv gv:Value):Prop where
 s:ao (hp w fb) (0+0)=some (ptr b)
 at':ao (hp w fb) (0+1)=some (bS f.at')
 steps:ao (hp w fb) (0+2)=some (bS f.steps)
 point:ao (hp w fb) (0+3)=some (bS f.point)
 back:ao (hp w fb) (0+4)=some (bS f.back)
 tag:ao (hp w fb) (0+5)=some (bS f.tag)
 e:ao (hp w fb) (0+6)=some ev
 k:ao (hp w fb) (0+7)=some kv
 p:ao (hp w fb) (0+8)=some pv
 g:ao (hp w fb) (0+9)=some gv
 code:ao (hp w fb) (0+10)=some (bS f.code)
 done:ao (hp w fb) (0+11)=some (.bool f.done)
theorem fr_f{a:Value}(R:Rel w T)(hT:T fb=some (frN o b f a kv pv gv)):FrF w fb b f a kv pv gv:=by
 have hb:hp w fb=some (.cells (frA b f a kv pv gv) 243):=R.kW hT;constructor<;>rw[hb]<;>rfl
def FrR(w:World)(T:dN)(o fb b:Nat)(h:Hm)(f:FrV):Prop:=∃eb x y z,T fb=some (frN o b f (ptr eb) (.pointer x) (.pointer y) (.pointer z))/\EdR T o eb h f.e/\
 (f.at'=2->f.done=false->∃kb,x=some ⟨kb,0,none⟩/\WaR T o kb h f.k)/\(f.at'=3->f.done=false->∃a,y=some ⟨a,0,none⟩/\PuR w T o a h.sb f.b)/\(f.at'=4->f.done=false->∃c,z=some ⟨c,0,none⟩/\GiR w T o c h f.g)
def frT:List TypeId:= [258,262,287,290,282,293,243]
theorem c_Free(R:Rel w T)(U:fX w T o b sb lb h c su)(slot gen:Int):aa prog 143 [ptr b,bS slot,bS gen] w λv w'=>∃fb T',v=ptr fb/\Gx (λ_=>False) w T w' T'/\FrR w' T' o fb b h (tT slot gen):=by
 apply F143_ok;obtain⟨u0,_,_⟩:=qa R U;simp only[F143,ptr,ae,ac,jv,gp,u0];refine(c_End R slot gen o).mono ?_;rintro _ w1 ⟨eb,T1,rfl,d,e⟩;have a:ai prog (Instr.build 243 #[(0,ptr b),(6,ptr eb)])=some (.agg (frA b (tT slot gen) (ptr eb) (.pointer none) (.pointer none) (.pointer none))):=bd_243_0_6;simp only[ptr]at a;simp only[ptr,a,ak,au,ac];have g:=Gx.p8 (S:=λ_=>False) d.rel o 243 (frA b (tT slot gen) (ptr eb) (.pointer none) (.pointer none) (.pointer none)).toList;exact⟨w1.heap.size,_,rfl,d.trans g,eb,none,none,none,ax,g.off eb _ e (λh=>h),(λh=>by cases h),(λh=>by cases h),λh=>by cases h⟩
theorem c_back(R:Rel w T)(H:dM T h c m)(Q:o≠0)(U:fX w T o b sb lb h c su){x y z:Option Addr}(hT:T fb=some (frN o b f (ptr eb) (.pointer x) (.pointer y) (.pointer z)))(E:EdR T o eb h f.e):
  aa prog 195 [ptr fb] w λv w'=>v= .tuple #[]/\∃T',Gx (SO T o [243]) w T w' T'/\FrR w' T' o fb b h (sN f):=by
 apply F195_ok;have F:=fr_f R hT;obtain⟨u0,_,_⟩:=qa R U;obtain⟨_,_,_,I,_⟩:=m9 R H;have n:=(ad.refl [] w).drew;have J:=(ed_f R E).slot;simp only[F195,ptr,ae,ac,zS,fa_243_0,fa_243_6,jv,fa_153_3,fa_287_1,jO,gp,mj,ld_239,ag,F.s,F.e,u0,I,J,bs_22_1];generalize d:w.drew.alloc _=w1;have C:ad [] w.drew w1:=by rw[<- d];exact(ad.refl _ _).alloc _
 have K:hp w1 w.drew.heap.size=some (.cells #[bS f.e.slot] 3):=by rw[<- d,af,bX rfl]
 clear d;have L:=(R.aw n).aw C;have M:Lo w1 T (some ⟨w.drew.heap.size,0,none⟩) (ints [f.e.slot]):=⟨λj u q=>by
  have r:j=0:=by have:=(ce.1 q).1;simp[ints]at this;omega
  subst r;simp[ints]at q;subst q;exact⟨_,rfl,by rw[eR,gi,K];rfl⟩,λp hp _=>by cases hp;exact(R.aw n).fresh (cy _)⟩
 refine(c_Push (l:= [f.e.slot]) L M (by simp) o).mono ?_;rintro _ w2 ⟨k,T2,rfl,_,_,i,D⟩;have a:=i.off fb _ hT (λh=>h);have t:Gx (SO T o [243]) w T w2 T2:=(Gx.bV R (n.trans C)).trans (SO.no i);simp only[ptr,ac,fa_243_8];refine aC (A':=frA b {f with b:=puNew [f.e.slot]} (ptr eb) (.pointer x) (ptr k) (.pointer z)) i.rel a sz_241 ⟨rfl,rfl⟩ rfl (by show 8<12;omega) λS V G A _ _=>?_;try simp only[ac,fa_243_1]
 refine aC (A':=frA b (sN f) (ptr eb) (.pointer x) (ptr k) (.pointer z)) G.rel A aE ⟨rfl,rfl⟩ rfl (by show 1<12;omega) λW O P B _ _=>?_;have g:=G.trans P;refine⟨by first|rfl|trivial,O,SO.then t (SO.one (es:= [243]) a dz g) (λ_ h=>h),eb,x,some ⟨k,0,none⟩,z,B,g.off eb _ (i.off eb _ E (λh=>h)) (aA (i.off eb _ E (λh=>h)) a dz),(λh=>by cases h),(λ_ _=>⟨k,rfl,D.gx g (by obtain⟨_,_,hp,_⟩:=D;exact aA hp a dz)⟩),λh=>by cases h⟩
structure FrOk(c:cP)(f:FrV):Prop where
 at':f.at'<=4
 steps:0<=f.steps/\f.steps<=1000000000
 e:f.at'=0->EdOk c f.e
 k:f.at'=2->WaOk c f.k
 p:f.at'=3->tE (dL c) f.b
 g:f.at'=4->tE (bP c) f.g.p
theorem frOne{a:Value}(hT:T fb=some (frN o b f a kv pv gv))(g:Gx (λq=>q=fb) w T w' T'):Gx (SM h T o frT) w T w' T':=SO.toM (SO.one (es:= [243]) hT dz g) dz
theorem frUnU{d:Value}(U:fX w T o b sb lb h c su)(hT:T fb=some (frN o b f d kv pv gv))(g:Gx (λq=>q=fb) w T w' T'):fX w' T' o b sb lb h c su:=
 U.gx g (aA U.n hT dz) (by obtain⟨_,a,_⟩:=U.s;exact aA a hT dz) (by obtain⟨_,a,_⟩:=U.l;exact aA a hT dz)
theorem c_FrStep(N:gM c)(R:Rel w T)(H:dM T h c m)(j:o≠0)(M:eu c m)(U:fX w T o b sb lb h c su)(O:rn su)(A:FrR w T o fb b h f)(OF:FrOk c f):
  aa prog 151 [ptr fb] w λv w'=>v= .bool (!f.done)/\∃T',Gx (SM h T o frT) w T w' T'/\dM T' h c (eD c m su f).1/\fX w' T' o b sb lb h c (eD c m su f).2.1/\FrR w' T' o fb b h (eD c m su f).2.2:=by
 apply F151_ok;have A0:=A;obtain⟨eb,x,y,z,hT,E,hx,hy,hz⟩:=A;have F:=fr_f R hT;cases hd:f.done with
 |true=>
  have Fd:=F.done;rw[hd]at Fd;simp only[F151,ptr,ae,ac,tc,aB,Fd,zS];rw[eD,bX hd];exact⟨by first|rfl|trivial,T,Gx.refl R,H,U,A0⟩
 |false=>
 have Fd:=F.done;rw[hd]at Fd;have os:=OF.steps;have ew:IntKind.i64.wrap (f.steps+1)=f.steps+1:=ap dy dy;rw[F151];simp only[ptr,ae,ac,tc,fa_243_2,aB,ag,Fd,F.steps,aj,ew,zS];refine aC (A':=frA b {f with steps:=f.steps+1} (ptr eb) (.pointer x) (.pointer y) (.pointer z)) R hT aE ⟨rfl,rfl⟩ rfl (by show 2<12;omega) λw1 T1 g1 I d3 c1=>?_;have U1:=frUnU U hT g1;have Q:=H.cL g1 hT j;have R1:=g1.rel;have E1:EdR T1 o eb h f.e:=g1.off eb _ E (aA E hT dz);have F1:=fr_f R1 I;obtain⟨u0,_,_⟩:=qa R1 U1;have a2:Gx (SM h T o frT) w T w1 T1:=frOne hT g1;simp only[ptr,ae,ac,zS,fa_243_0,fa_243_1,jv,jO,gp,ag,F1.s,u0];have fin:∀(w5:World) (Z:dN) (r:bI×lO×FrV),eD c m su f=r->Gx (SM h T o frT) w T w5 Z->dM Z h c r.1->fX w5 Z o b sb lb h c r.2.1->FrR w5 Z o fb b h r.2.2->P151_0 w5 (λv w'=>v= .bool true/\∃T',Gx (SM h T o frT) w T w' T'/\dM T' h c (eD c m su f).1/\fX w' T' o b sb lb h c (eD c m su f).2.1/\FrR w' T' o fb b h (eD c m su f).2.2):=by
  rintro w5 Z r rfl h1 h2 h3 h4;apply L151_0_ok;exact⟨rfl,Z,h1,h2,h3,h4⟩
 have C:eD c m su f=(if f.at'=0 then
   ((fG c m f.e).1,su,if(fG c m f.e).2.done=false then{f with steps:=f.steps+1,e:=(fG c m f.e).2}
    else if(fG c m f.e).2.code≠0 then{f with steps:=f.steps+1,e:=(fG c m f.e).2,point:=f.steps+1,code:=(fG c m f.e).2.code,done:=true}
    else if 0<=(fG c m f.e).2.chunk then{f with steps:=f.steps+1,e:=(fG c m f.e).2,point:=f.steps+1,code:=(fG c m f.e).2.code,at':=1}
    else sN {f with steps:=f.steps+1,e:=(fG c m f.e).2,point:=f.steps+1,code:=(fG c m f.e).2.code})
  else if f.at'=1 then(m,su,{f with steps:=f.steps+1,tag:=fP (di m 2),k:=⟨[f.e.chunk],false⟩,at':=2})
  else if f.at'=2 then
   (if(ir c m f.k).done then(m,oC su f.tag (ir c m f.k).l,sN {f with steps:=f.steps+1,k:=ir c m f.k})else(m,su,{f with steps:=f.steps+1,k:=ir c m f.k}))
  else if f.at'=3 then
   (if(eX (dL c) m f.b).2.done then((eX (dL c) m f.b).1,(fr c.2.2.2.2.1 su).2,{f with steps:=f.steps+1,b:=(eX (dL c) m f.b).2,back:=f.steps+1,g:=iE (fr c.2.2.2.2.1 su).1,at':=4,done:=decide ((fr c.2.2.2.2.1 su).1.length=0)})
   else((eX (dL c) m f.b).1,su,{f with steps:=f.steps+1,b:=(eX (dL c) m f.b).2}))
  else((dJ c m f.g).1,su,{f with steps:=f.steps+1,g:=(dJ c m f.g).2,done:=(dJ c m f.g).2.done})):=by
  rw[eD,bY (by rw[hd];decide)];by_cases h0:f.at'=0
  ·simp only[h0,if_true];by_cases h1:(fG c m f.e).2.done=false
   ·simp[h1]
   ·simp[h1]
  ·simp[h0]
 have A5:f.at'=0\/f.at'=1\/f.at'=2\/f.at'=3\/f.at'=4:=by have:=OF.at';omega
 rcases A5 with q0|q0|q0|q0|q0
 . -- b2 b7 end
  rw[bX q0]at C;have W:ao (hp w1 fb) (0+1)=some (bS 0):=by have t:ao (hp w1 fb) (0+1)=some (bS (f.at':Nat)):=F1.at';rw[q0]at t;exact t
  simp only[ptr,ac,zS,fa_243_6,ld_239,W,F1.e];refine(c_EdStep N R1 Q j M E1 (OF.e q0)).mono ?_;rintro _ w2 ⟨rfl,T2,B,H2,E2⟩;have i:=B.off fb _ I (SM.un Q I j (.inr dz));have U2:=U1.sm Q B j (.inr dz);have S:=SM.then a2 (B.mono λk hk=>hk.imp id fun⟨e,cs,p,q⟩=>⟨e,cs,p,(show∀e∈ [287],e∈frT by decide) e q⟩) (λ_ h=>h)
  generalize hr:fG c m f.e=r at*;obtain⟨m2,e2⟩:=r;simp only at C E2 H2;have F2:=fr_f B.rel i;have G2:=ed_f B.rel E2;cases a6:e2.done with
  |false=>
   have a3:=G2.done;rw[a6]at a3;rw[bX a6]at C;simp only[ptr,ae,ac,zS,pQ,aB,F2.e,a3];rw[C];exact⟨by first|rfl|trivial,T2,S,H2,U2,eb,x,y,z,i,E2,(λh=>absurd (q0.symm.trans h) dz),(λh=>absurd (q0.symm.trans h) dz),λh=>absurd (q0.symm.trans h) dz⟩
  |true=>
   have a3:=G2.done;rw[a6]at a3;rw[bY (by rw[a6];decide)]at C;have X:=(ad.refl [] w2).drew;simp only[ptr,ae,ac,zS,fa_243_3,fa_287_8,pQ,aB,jy,F2.e,F2.steps,a3,G2.code];refine aC (A':=frA b {f with steps:=f.steps+1,e:=e2,point:=f.steps+1} (ptr eb) (.pointer x) (.pointer y) (.pointer z)) (B.rel.aw X) i aE ⟨rfl,rfl⟩ rfl (by show 3<12;omega) λw3 T3 J V _ _=>?_;try simp only[ac,fa_243_10]
   refine aC (A':=frA b {f with steps:=f.steps+1,e:=e2,point:=f.steps+1,code:=e2.code} (ptr eb) (.pointer x) (.pointer y) (.pointer z)) J.rel V sz_30 ⟨rfl,rfl⟩ rfl (by show 10<12;omega) λw4 T4 L d _ _=>?_;have a7:=J.trans L;have F4:=fr_f L.rel d;have E4:EdR T4 o eb h e2:=a7.off eb _ E2 (aA E2 i dz);have G4:=ed_f L.rel E4;have U4:=frUnU (U2.aw X) i a7;have H4:=H2.cL a7 i j;have b9:Gx (SM h T2 o frT) w2 T2 w4 T4:=(Gx.bV B.rel X).trans (frOne i a7);have b3:=SM.then S b9 (λ_ h=>h)
   by_cases hc:e2.code≠0
   ·rw[bX hc]at C;have hb:(e2.code !=0)=true:=by simpa using hc
    simp only[ac,zS,jy,F4.code,hb];refine aC (A':=frA b {f with steps:=f.steps+1,e:=e2,point:=f.steps+1,code:=e2.code,done:=true} (ptr eb) (.pointer x) (.pointer y) (.pointer z)) L.rel d mQ ⟨rfl,rfl⟩ rfl (by show 11<12;omega) λw5 Z D n _ _=>?_;exact fin w5 Z _ C (SM.then b3 (frOne d D) (λ_ h=>h)) (H4.cL D d j) (frUnU U4 d D) ⟨eb,x,y,z,n,D.off eb _ E4 (aA E4 d dz),(λ_ h=>by cases h),(λ_ h=>by cases h),λ_ h=>by cases h⟩
   ·rw[bY hc]at C;have hb:(e2.code !=0)=false:=by simpa using hc
    by_cases a8:0<=e2.chunk
    ·rw[bX a8]at C;simp only[ptr,ae,ac,zS,fa_287_6,jy,ag,F4.code,F4.e,G4.chunk,hb,a8];refine aC (A':=frA b {f with steps:=f.steps+1,e:=e2,point:=f.steps+1,code:=e2.code,at':=1} (ptr eb) (.pointer x) (.pointer y) (.pointer z)) L.rel d aE ⟨rfl,rfl⟩ rfl (by show 1<12;omega) λw5 Z D n _ _=>?_;exact fin w5 Z _ C (SM.then b3 (frOne d D) (λ_ h=>h)) (H4.cL D d j) (frUnU U4 d D) ⟨eb,x,y,z,n,D.off eb _ E4 (aA E4 d dz),(λh=>by cases h),(λh=>by cases h),λh=>by cases h⟩
    ·rw[bY a8]at C;simp only[ptr,ae,ac,zS,fa_287_6,jy,ag,F4.code,F4.e,G4.chunk,hb,a8];refine(c_back (f:={f with steps:=f.steps+1,e:=e2,point:=f.steps+1,code:=e2.code}) L.rel H4 j U4 d E4).mono ?_;rintro _ w5 ⟨rfl,Z,D,A5⟩;exact fin w5 Z _ C (SM.then b3 (SO.toM (h:=h) (es':=frT) D dz) (λ_ h=>h)) (H4.so D j) (U4.so D (.inr dz)) A5
 . -- b2 epoch is read
  have C:eD c m su f=(m,su,{f with steps:=f.steps+1,tag:=fP (di m 2),k:=⟨[f.e.chunk],false⟩,at':=2}):=by rw[C];simp[q0]
  have W:ao (hp w1 fb) (0+1)=some (bS 1):=by have t:ao (hp w1 fb) (0+1)=some (bS (f.at':Nat)):=F1.at';rw[q0]at t;exact t
  obtain⟨k6,_⟩:=m9 R1 Q;simp only[ptr,ac,zS,fq,bD,W,Int.reduceBEq,k6];refine(je (a:=2) R1 Q M.two).mono ?_;rintro _ w2 ⟨rfl,_,T2,B,H2⟩;have i:=B.off fb _ I (Q.tD I j);have U2:=U1.sm (o':=o) (es:= []) Q (SM.mem B) j (.inr dz);have E2:EdR T2 o eb h f.e:=B.off eb _ E1 (Q.tD E1 j);have S:=SM.then a2 (SM.mem B) (λ_ h=>h)
  refine(c_Cut5 (iF M.u 2)).step ?_;try simp only[ac,fa_243_5]
  refine aC (A':=frA b {f with steps:=f.steps+1,tag:=fP (di m 2)} (ptr eb) (.pointer x) (.pointer y) (.pointer z)) B.rel i aE ⟨rfl,rfl⟩ rfl (by show 5<12;omega) λw3 T3 J V _ _=>?_;have F3:=fr_f J.rel V;have E3:EdR T3 o eb h f.e:=J.off eb _ E2 (aA E2 i dz);have G3:=ed_f J.rel E3;simp only[ptr,ae,ac,fa_243_6,fa_287_6,ld_239,ag,F3.e,G3.chunk];refine(c_Walk J.rel f.e.chunk o).mono ?_;rintro _ w4 ⟨kb,T4,rfl,L,K4⟩;have d:=L.off fb _ V (λh=>h);simp only[ptr,ac,fa_243_7];refine aC (A':=frA b {f with steps:=f.steps+1,tag:=fP (di m 2),k:=⟨[f.e.chunk],false⟩} (ptr eb) (ptr kb) (.pointer y) (.pointer z)) L.rel d sz_240 ⟨rfl,rfl⟩ rfl (by show 7<12;omega) λw5 Z D n _ _=>?_;try simp only[ae,ac,fa_243_1]
  refine aC (A':=frA b {f with steps:=f.steps+1,tag:=fP (di m 2),k:=⟨[f.e.chunk],false⟩,at':=2} (ptr eb) (ptr kb) (.pointer y) (.pointer z)) D.rel n aE ⟨rfl,rfl⟩ rfl (by show 1<12;omega) λw6 T6 g6 a1 _ _=>?_;have Y:=D.trans g6;have E4:EdR T4 o eb h f.e:=L.off eb _ E3 (λh=>h);have E6:EdR T6 o eb h f.e:=Y.off eb _ E4 (aA E4 d dz);have K6:WaR T6 o kb h ⟨[f.e.chunk],false⟩:=Y.off kb _ K4 (aA K4 d dz);have c2:=SM.then (SM.then (SM.then S (frOne i J) (λ_ h=>h)) (SO.toM (h:=h) (es:= []) (es':=frT) (SO.no L) dz) (λ_ h=>h)) (frOne d Y) (λ_ h=>h)
  exact fin w6 T6 _ C c2 (((H2.cL J i j).no L).cL Y d j) (frUnU ((frUnU U2 i J).no L) d Y) ⟨eb,some ⟨kb,0,none⟩,y,z,a1,E6,(λ_ _=>⟨kb,rfl,K6⟩),(λh=>by cases h),λh=>by cases h⟩
 . -- b2 c3 is b8
  have C:eD c m su f=(if(ir c m f.k).done then(m,oC su f.tag (ir c m f.k).l,sN {f with steps:=f.steps+1,k:=ir c m f.k})else(m,su,{f with steps:=f.steps+1,k:=ir c m f.k})):=by rw[C];simp[q0]
  have W:ao (hp w1 fb) (0+1)=some (bS 2):=by have t:ao (hp w1 fb) (0+1)=some (bS (f.at':Nat)):=F1.at';rw[q0]at t;exact t
  obtain⟨kb,rfl,K⟩:=hx q0 hd;have K1:WaR T1 o kb h f.k:=g1.off kb _ K (aA K hT dz);simp only[ac,zS,fa_243_7,ld_240,W,Int.reduceBEq,F1.k];refine(c_WaStep N R1 Q j M K1 (OF.k q0)).mono ?_;rintro _ w2 ⟨rfl,T2,B,H2,K2⟩;have i:=B.off fb _ I (SM.un Q I j (.inr dz));have E2:EdR T2 o eb h f.e:=B.off eb _ E1 (SM.un Q E1 j (.inr dz));have U2:=U1.sm Q B j (.inr dz);have S:=SM.then a2 (B.mono λk hk=>hk.imp id fun⟨e,cs,p,q⟩=>⟨e,cs,p,(show∀e∈ [290],e∈frT by decide) e q⟩) (λ_ h=>h)
  have b6:(ir c m f.k).l.length<=100000:=by
   have:=(OF.k q0).m;unfold ir;split
   ·omega
   ·split
    ·show f.k.l.length<=_;omega
    ·simp only[cJ,List.length_singleton];omega
  generalize hr:ir c m f.k=k2 at*;have F2:=fr_f B.rel i;obtain⟨Aa,kk,W2⟩:=wa_f B.rel K2;cases a9:k2.done with
  |false=>
   have a4:=W2.f2;rw[a9]at a4;rw[bY (by rw[a9];decide)]at C;simp only[ae,ac,zS,fa_290_2,aB,F2.k,a4];exact fin w2 T2 _ C S H2 U2 ⟨eb,some ⟨kb,0,none⟩,y,z,i,E2,(λ_ _=>⟨kb,rfl,K2⟩),(λh=>absurd (q0.symm.trans h) dz),λh=>absurd (q0.symm.trans h) dz⟩
  |true=>
   have a4:=W2.f2;rw[a9]at a4;rw[bX a9]at C;have X:=(ad.refl [] w2).drew;simp only[ptr,ae,ac,zS,fa_243_5,se,fa_290_2,aB,ag,aH,F2.k,F2.s,F2.tag,a4,W2.f1];refine(c_RetireW (B.rel.aw X) (U2.aw X) O f.tag K2 (W2.aw X) b6).mono ?_;rintro _ w3 ⟨T3,J,U3⟩;have V:=J.off fb _ i (SO.un i (.inr dz));have E3:EdR T3 o eb h f.e:=J.off eb _ E2 (SO.un E2 (.inr dz));have H3:=H2.so J j;have c4:=SM.then (S.trans (Gx.bV B.rel X)) (SO.toM (h:=h) (es':=frT) J dz) (λ_ h=>h)
   try simp only[ptr,ae,ac]
   refine(c_back (f:={f with steps:=f.steps+1,k:=k2}) J.rel H3 j U3 V E3).mono ?_;rintro _ w4 ⟨rfl,T4,L,A4⟩;exact fin w4 T4 _ C (SM.then c4 (SO.toM (h:=h) (es':=frT) L dz) (λ_ h=>h)) (H3.so L j) (U3.so L (.inr dz)) A4
 . -- b2 slot is b4 back
  have C:eD c m su f=(if(eX (dL c) m f.b).2.done then((eX (dL c) m f.b).1,(fr c.2.2.2.2.1 su).2,{f with steps:=f.steps+1,b:=(eX (dL c) m f.b).2,back:=f.steps+1,g:=iE (fr c.2.2.2.2.1 su).1,at':=4,done:=decide ((fr c.2.2.2.2.1 su).1.length=0)})
   else((eX (dL c) m f.b).1,su,{f with steps:=f.steps+1,b:=(eX (dL c) m f.b).2})):=by rw[C];simp[q0]
  have W:ao (hp w1 fb) (0+1)=some (bS 3):=by have t:ao (hp w1 fb) (0+1)=some (bS (f.at':Nat)):=F1.at';rw[q0]at t;exact t
  obtain⟨pb,rfl,P⟩:=hy q0 hd;have P1:PuR w1 T1 o pb h.sb f.b:=P.gx g1 (by obtain⟨_,_,hp,_⟩:=P;exact aA hp hT dz);simp only[ac,zS,fa_243_8,ld_241,W,Int.reduceBEq,F1.p];refine(c_PuStep R1 Q j Q.sT (M.spare N) P1 (OF.p q0)).mono ?_;rintro _ w2 ⟨T2,B,H2,P2⟩;have b5:∃A k,T1 pb=some (puN o h.sb A k f.b):=by obtain⟨A,k,hp,_⟩:=P1;exact⟨A,k,hp⟩
  obtain⟨Ax,kx,b5⟩:=b5;have B:Gx (SM h T1 o [293]) w1 T1 w2 T2:=SM.two b5 dz B;have i:=B.off fb _ I (SM.un Q I j (.inr dz));have E2:EdR T2 o eb h f.e:=B.off eb _ E1 (SM.un Q E1 j (.inr dz));have U2:=U1.sm Q B j (.inr dz);have S:=SM.then a2 (B.mono λk hk=>hk.imp id fun⟨e,cs,p,q⟩=>⟨e,cs,p,(show∀e∈ [293],e∈frT by decide) e q⟩) (λ_ h=>h)
  generalize hr:eX (dL c) m f.b=r at*;obtain⟨m2,p2⟩:=r;simp only at C P2 H2;have F2:=fr_f B.rel i;have c5:=P2;obtain⟨Ap,kp,c6,_⟩:=P2;obtain⟨_,_,_,_,_,f4⟩:=pu_f B.rel c6;cases b1:p2.done with
  |false=>
   rw[b1]at f4;rw[bY (by rw[b1];decide)]at C;simp only[ae,ac,zS,mP,aB,F2.p,f4];exact fin w2 T2 _ C S H2 U2 ⟨eb,x,some ⟨pb,0,none⟩,z,i,E2,(λh=>absurd (q0.symm.trans h) dz),(λ_ _=>⟨pb,rfl,c5⟩),λh=>absurd (q0.symm.trans h) dz⟩
  |true=>
   rw[b1]at f4;rw[bX b1]at C;simp only[ae,ac,zS,fa_243_4,mP,aB,F2.p,F2.steps,f4];refine aC (A':=frA b {f with steps:=f.steps+1,b:=p2,back:=f.steps+1} (ptr eb) (.pointer x) (ptr pb) (.pointer z)) B.rel i aE ⟨rfl,rfl⟩ rfl (by show 4<12;omega) λw3 T3 J V _ _=>?_;have F3:=fr_f J.rel V;have H3:=H2.cL J i j;have U3:=frUnU U2 i J;have E3:EdR T3 o eb h f.e:=J.off eb _ E2 (aA E2 i dz);simp only[ptr,ac,F3.s];refine(c_Spill N J.rel H3 j U3 O).mono ?_;rintro _ w4 ⟨gb,T4,rfl,L,U4,G4⟩;have d:=L.off fb _ V (SO.un V (.inr dz));have E4:EdR T4 o eb h f.e:=L.off eb _ E3 (SO.un E3 (.inr dz));have H4:=H3.so L j;simp only[ptr,ac,fa_243_9];refine aC (A':=frA b {f with steps:=f.steps+1,b:=p2,back:=f.steps+1,g:=iE (fr c.2.2.2.2.1 su).1} (ptr eb) (.pointer x) (ptr pb) (ptr gb)) L.rel d sz_235 ⟨rfl,rfl⟩ rfl (by show 9<12;omega) λw5 Z D n _ _=>?_;try simp only[ae,ac,fa_243_1]
   refine aC (A':=frA b {f with steps:=f.steps+1,b:=p2,back:=f.steps+1,g:=iE (fr c.2.2.2.2.1 su).1,at':=4} (ptr eb) (.pointer x) (ptr pb) (ptr gb)) D.rel n aE ⟨rfl,rfl⟩ rfl (by show 1<12;omega) λw6 T6 g6 a1 _ _=>?_;have Y:=D.trans g6;have F6:=fr_f g6.rel a1;have G6:=G4.gx Y (by obtain⟨q,v,hq,_⟩:=G4;exact aA hq d dz) (λq cs hq=>aA hq d dz);have d6:ao (hp w6 gb) (0+2)=some (.bool (iE (fr c.2.2.2.2.1 su).1).done):=by obtain⟨q,v,hg,_⟩:=G6;rw[nd_l g6.rel hg];rfl
   simp only[ptr,ae,ac,mO,ld_235,aB,F6.g,d6];refine aC (A':=frA b {f with steps:=f.steps+1,b:=p2,back:=f.steps+1,g:=iE (fr c.2.2.2.2.1 su).1,at':=4,done:=(iE (fr c.2.2.2.2.1 su).1).done} (ptr eb) (.pointer x) (ptr pb) (ptr gb)) g6.rel a1 mQ ⟨rfl,rfl⟩ rfl (by show 11<12;omega) λw7 T7 g7 c7 _ _=>?_;have a5:=Y.trans g7;have G7:=G4.gx a5 (by obtain⟨q,v,hq,_⟩:=G4;exact aA hq d dz) (λq cs hq=>aA hq d dz);have c8:=SM.then (SM.then (SM.then S (frOne i J) (λ_ h=>h)) (SO.toM (h:=h) (es':=frT) L dz) (λ_ h=>h)) (frOne d a5) (λ_ h=>h)
   exact fin w7 T7 _ C c8 (H4.cL a5 d j) (frUnU U4 d a5) ⟨eb,x,some ⟨pb,0,none⟩,some ⟨gb,0,none⟩,c7,a5.off eb _ E4 (aA E4 d dz),(λh=>by cases h),(λh=>by cases h),λ_ _=>⟨gb,rfl,G7⟩⟩
 . -- d1 is d2 is b4
  have C:eD c m su f=((dJ c m f.g).1,su,{f with steps:=f.steps+1,g:=(dJ c m f.g).2,done:=(dJ c m f.g).2.done}):=by rw[C];simp[q0]
  have W:ao (hp w1 fb) (0+1)=some (bS 4):=by have t:ao (hp w1 fb) (0+1)=some (bS (f.at':Nat)):=F1.at';rw[q0]at t;exact t
  obtain⟨gb,rfl,G⟩:=hz q0 hd;have G1:GiR w1 T1 o gb h f.g:=G.gx g1 (by obtain⟨q,v,hq,_⟩:=G;exact aA hq hT dz) (λq cs hq=>aA hq hT dz);simp only[ac,zS,fa_243_9,ld_235,W,Int.reduceBEq,F1.g];refine(c_GiStep R1 Q j (M.pool N) G1 (OF.g q0)).mono ?_;rintro _ w5 ⟨Z,D,H5,G5⟩;have n:=D.off fb _ I (SM.un Q I j (.inr dz));have E5:EdR Z o eb h f.e:=D.off eb _ E1 (SM.un Q E1 j (.inr dz));have c9:=SM.then a2 (D.mono λk hk=>hk.imp id fun⟨e,cs,p,q⟩=>⟨e,cs,p,(show∀e∈ [282,293],e∈frT by decide) e q⟩) (λ_ h=>h)
  have U5:=U1.sm Q D j (.inr dz);have F5:=fr_f D.rel n;have d4:ao (hp w5 gb) (0+2)=some (.bool (dJ c m f.g).2.done):=by obtain⟨q,v,hg,_⟩:=G5;rw[nd_l D.rel hg];rfl
  simp only[ae,ac,mO,aB,F5.g,d4];refine aC (A':=frA b {f with steps:=f.steps+1,g:=(dJ c m f.g).2,done:=(dJ c m f.g).2.done} (ptr eb) (.pointer x) (.pointer y) (ptr gb)) D.rel n mQ ⟨rfl,rfl⟩ rfl (by show 11<12;omega) λw6 T6 g6 a1 _ _=>?_;have G6:=G5.gx g6 (by obtain⟨q,v,hq,_⟩:=G5;exact aA hq n dz) (λq cs hq=>aA hq n dz);exact fin w6 T6 _ C (SM.then c9 (frOne n g6) (λ_ h=>h)) (H5.cL g6 n j) (frUnU U5 n g6) ⟨eb,x,y,some ⟨gb,0,none⟩,a1,g6.off eb _ E5 (aA E5 n dz),(λh=>absurd (q0.symm.trans h) dz),(λh=>absurd (q0.symm.trans h) dz),λ_ _=>⟨gb,rfl,G6⟩⟩
end
section
variable{w w0 w1 w2 w':World}{T T1 T2 T':dN}{h:Hm}{c:cP}{m m':bI}{o o' b sb lb k ab tb q kb fb eb xb wb:Nat}{es es':List TypeId}{su:lO}{x:CrV}{pv:Value}
def crA(wb:Nat)(x:CrV)(pv:Value):Array Value:= #[ptr wb,bS x.cls,bS x.at',bS x.steps,bS x.point,bS x.slot,bS x.gen,pv,bS x.root.gen,bS x.root.mark,bS x.root.cls,bS x.root.off,bS x.code,.bool x.done]
def crN(o wb:Nat)(x:CrV)(pv:Value):Nod:= .st o 233 ((crA wb x pv).toList.map fQ.v)
structure CrF(w:World)(xb wb:Nat)(x:CrV)(pv:Value):Prop where
 wb:ao (hp w xb) (0+0)=some (ptr wb)
 cls:ao (hp w xb) (0+1)=some (bS x.cls)
 at':ao (hp w xb) (0+2)=some (bS x.at')
 steps:ao (hp w xb) (0+3)=some (bS x.steps)
 point:ao (hp w xb) (0+4)=some (bS x.point)
 slot:ao (hp w xb) (0+5)=some (bS x.slot)
 gen:ao (hp w xb) (0+6)=some (bS x.gen)
 p:ao (hp w xb) (0+7)=some pv
 rg:ao (hp w xb) (0+8+0)=some (bS x.root.gen)
 code:ao (hp w xb) (0+12)=some (bS x.code)
 done:ao (hp w xb) (0+13)=some (.bool x.done)
theorem cr_f(R:Rel w T)(hT:T xb=some (crN o wb x pv)):CrF w xb wb x pv:=by
 have hb:hp w xb=some (.cells (crA wb x pv) 233):=R.kW hT;constructor<;>rw[hb]<;>rfl
def CrR(T:dN)(o xb:Nat)(h:Hm)(x:CrV):Prop:=∃y,T xb=some (crN o h.wb x (.pointer y))/\(x.at'=0->x.done=false->∃a,y=some ⟨a,0,none⟩/\T a=some (poN o h.sb x.p))
def crT:List TypeId:= [270,233]
theorem c_Create(R:Rel w T)(H:dM T h c m)(cls:Int)(o:Nat):aa prog 138 [ptr h.wb,bS cls] w λv w'=>∃xb T',v=ptr xb/\Gx (λ_=>False) w T w' T'/\CrR T' o xb h (crNew cls):=by
 apply F138_ok;obtain⟨_,_,_,f,_⟩:=m9 R H;simp only[F138,ptr,ae,ac,fa_153_3,mj,f,pr_mn,pr_mx];refine(c_Pop R 1 o).mono ?_;rintro _ w1 ⟨a,T1,rfl,_,_,e,d⟩;have b:ai prog (Instr.build 233 #[(0,ptr h.wb),(1,bS (min (max cls 0) 3)),(7,ptr a)])=some (.agg (crA h.wb (crNew cls) (ptr a))):=bd_233_0_1_7;simp only[ptr]at b;simp only[ptr,b,ak,au,ac];have g:=Gx.p8 (S:=λ_=>False) e.rel o 233 (crA h.wb (crNew cls) (ptr a)).toList;exact⟨w1.heap.size,_,rfl,e.trans g,some ⟨a,0,none⟩,ax,λ_ _=>⟨a,rfl,g.off a _ d (λh=>h)⟩⟩
structure CrOk(c:cP)(x:CrV):Prop where
 at':x.at'<=2
 steps:0<=x.steps/\x.steps<=1000000000
 p:x.at'=0->PoOk (dL c) x.p
 slot:x.at'≠0->0<=x.slot/\x.slot<cS c
 root:0<=x.root.gen/\x.root.gen<=4294967295
theorem crOne(hT:T xb=some (crN o wb x pv))(g:Gx (λq=>q=xb) w T w' T'):Gx (SM h T o crT) w T w' T':=SO.toM (SO.one (es:= [233]) hT dz g) dz
theorem c_CrStep(N:gM c)(R:Rel w T)(H:dM T h c m)(E:o≠0)(M:eu c m)(A:CrR T o xb h x)(L:CrOk c x):
  aa prog 145 [ptr xb] w λv w'=>v= .bool (!x.done)/\∃T',Gx (SM h T o crT) w T w' T'/\dM T' h c (eL c m x).1/\CrR T' o xb h (eL c m x).2:=by
 apply F145_ok;have A0:=A;obtain⟨y,hT,hy⟩:=A;have F:=cr_f R hT;cases Q:x.done with
 |true=>
  have Fd:=F.done;rw[Q]at Fd;simp only[F145,ptr,ae,ac,mi,aB,Fd,zS];rw[eL,bX Q];exact⟨by first|rfl|trivial,T,Gx.refl R,H,A0⟩
 |false=>
 have Fd:=F.done;rw[Q]at Fd;have os:=L.steps;have b4:=N.b4;have ew:IntKind.i64.wrap (x.steps+1)=x.steps+1:=ap dy dy;rw[F145];simp only[ptr,ae,ac,mi,fa_233_3,aB,ag,Fd,F.steps,aj,ew,zS];refine aC (A':=crA h.wb {x with steps:=x.steps+1} (.pointer y)) R hT aE ⟨rfl,rfl⟩ rfl (by show 3<14;omega) λw1 T1 g1 j b7 c1=>?_;have O:=H.cL g1 hT E;have U:=g1.rel;have V:=cr_f U j;obtain⟨k6,_⟩:=m9 U O;have W:Gx (SM h T o crT) w T w1 T1:=crOne hT g1;simp only[ptr,ae,ac,zS,fa_233_0,fa_233_2,fq,gp,bD,ag,V.wb,k6];have fin:∀(X:World) (I:dN) (r:bI×CrV),eL c m x=r->Gx (SM h T o crT) w T X I->dM I h c r.1->CrR I o xb h r.2->P145_0 X (λv w'=>v= .bool true/\∃T',Gx (SM h T o crT) w T w' T'/\dM T' h c (eL c m x).1/\CrR T' o xb h (eL c m x).2):=by
  rintro X I r rfl h1 h2 h4;apply L145_0_ok;exact⟨rfl,I,h1,h2,h4⟩
 have A3:x.at'=0\/x.at'=1\/x.at'=2:=by have:=L.at';omega
 rcases A3 with q0|q0|q0
 ·have B:eL c m x=(if(dS (dL c) m x.p).2.done=false then((dS (dL c) m x.p).1,{x with steps:=x.steps+1,p:=(dS (dL c) m x.p).2})
   else if(ec (dS (dL c) m x.p).2).length=0 then((dS (dL c) m x.p).1,{x with steps:=x.steps+1,p:=(dS (dL c) m x.p).2,point:=x.steps+1,code:=7,done:=true})
   else((dS (dL c) m x.p).1,{x with steps:=x.steps+1,p:=(dS (dL c) m x.p).2,point:=x.steps+1,slot:=(ec (dS (dL c) m x.p).2).getD 0 0,at':=1})):=by rw[eL,bY (by rw[Q];decide),bX q0]
  have G:ao (hp w1 xb) (0+2)=some (bS 0):=by have t:ao (hp w1 xb) (0+2)=some (bS (x.at':Nat)):=V.at';rw[q0]at t;exact t
  obtain⟨J,rfl,hP⟩:=hy q0 Q;have a3:=g1.off J _ hP (aA hP hT dz);simp only[ac,zS,fa_233_7,ld_229,G,V.p];refine(c_PoStep U O E O.sT (M.spare N) a3 (L.p q0)).mono ?_;rintro _ w2 ⟨T2,s,Y,P2⟩;have a4:=poStep_n (m:=m) (L.p q0);have b8:=(L.p q0).n;have s:Gx (SM h T1 o [270]) w1 T1 w2 T2:=SM.two a3 dz s;have b:=s.off xb _ j (SM.un O j E (.inr dz));have a5:=SM.then W (s.mono λk hk=>hk.imp id fun⟨e,cs,p,q⟩=>⟨e,cs,p,(show∀e∈ [270],e∈crT by decide) e q⟩) (λ_ h=>h)
  generalize hr:dS (dL c) m x.p=r at*;obtain⟨m2,p2⟩:=r;simp only at B P2 Y a4;have F2:=cr_f s.rel b;obtain⟨Ap,kp,Fp⟩:=po_f s.rel P2;have f6:=Fp.f6;cases K:p2.done with
  |false=>
   rw[K]at f6;rw[bX K]at B;simp only[ae,ac,zS,kf,aB,F2.p,f6];rw[B];exact⟨by first|rfl|trivial,T2,a5,Y,some ⟨J,0,none⟩,b,λ_ _=>⟨J,rfl,P2⟩⟩
  |true=>
   rw[K]at f6;rw[bY (by rw[K];decide)]at B;simp only[ae,ac,zS,fa_233_4,kf,aB,F2.p,F2.steps,f6];refine aC (A':=crA h.wb {x with steps:=x.steps+1,p:=p2,point:=x.steps+1} (ptr J)) s.rel b aE ⟨rfl,rfl⟩ rfl (by show 4<14;omega) λw3 T3 C d _ _=>?_;have F3:=cr_f C.rel d;have P3:=C.off J _ P2 (aA P2 b dz);have H3:=Y.cL C b E;have Z:=SM.then a5 (crOne b C) (λ_ h=>h)
   simp only[ptr,ac,F3.p];refine(c_Got C.rel P3 dy).mono ?_;rintro _ w4 ⟨Ag,kg,rfl,b9,Lg,c4⟩;have R4:=C.rel.aw c4;have a6:=Z.trans (Gx.bV C.rel c4);by_cases hz:(ec p2).length=0
   ·rw[bX hz]at B;have hb:(((ec p2).length:Int)==0)=true:=by rw[hz];rfl
    simp only[ac,zS,aK,hb,fa_233_9];refine aC (A':=crA h.wb {x with steps:=x.steps+1,p:=p2,point:=x.steps+1,code:=7} (ptr J)) R4 d sz_30 ⟨rfl,rfl⟩ rfl (by show 12<14;omega) λX I D g _ _=>?_;try simp only[ae,ac,mi]
    refine aC (A':=crA h.wb {x with steps:=x.steps+1,p:=p2,point:=x.steps+1,code:=7,done:=true} (ptr J)) D.rel g mQ ⟨rfl,rfl⟩ rfl (by show 13<14;omega) λw6 T6 P z _ _=>?_;rw[B];have l:=D.trans P;exact⟨by first|rfl|trivial,T6,SM.then a6 (crOne d l) (λ_ h=>h),H3.cL l d E,_,z,λ_ h=>by cases h⟩
   ·rw[bY hz]at B;have hb:(((ec p2).length:Int)==0)=false:=cN dy;obtain⟨v0,a7⟩:∃v0,(ec p2)[0]? =some v0:=⟨_,bZ dy⟩
    obtain⟨q,f,iq,lq⟩:=rd_int Lg.rd a7 kg;have iq:ai prog (Instr.indexAt 22 (.slice Ag (ec p2).length kg) (bS 0))=some (.pointer (some ⟨q,f,none⟩)):=iq;have a8:(ec p2).getD 0 0=v0:=by rw[cu,a7];rfl
    rw[a8]at B;simp only[ac,zS,aK,hb,iq,lq,ag,nW];refine aC (A':=crA h.wb {x with steps:=x.steps+1,p:=p2,point:=x.steps+1,slot:=v0} (ptr J)) R4 d aE ⟨rfl,rfl⟩ rfl (by show 5<14;omega) λX I D g _ _=>?_;try simp only[ae,ac,fa_233_2]
    refine aC (A':=crA h.wb {x with steps:=x.steps+1,p:=p2,point:=x.steps+1,slot:=v0,at':=1} (ptr J)) D.rel g aE ⟨rfl,rfl⟩ rfl (by show 2<14;omega) λw6 T6 P z _ _=>?_;have l:=D.trans P;exact fin w6 T6 _ B (SM.then a6 (crOne d l) (λ_ h=>h)) (H3.cL l d E) ⟨_,z,λh=>by cases h⟩
 ·have B:eL c m x=(m,{x with steps:=x.steps+1,root:=bd (di m (iS c x.slot.toNat)),at':=2}):=by rw[eL,bY (by rw[Q];decide)];simp[q0]
  have G:ao (hp w1 xb) (0+2)=some (bS 1):=by have t:ao (hp w1 xb) (0+2)=some (bS (x.at':Nat)):=V.at';rw[q0]at t;exact t
  have a1:=L.slot dy;have fs:ao (hp w1 xb) (0+5)=some (bS ((x.slot.toNat:Nat):Int)):=by rw[du a1.1];exact V.slot
  have cd:=(ad.refl [] w1).drew;simp only[ac,zS,nW,bR,ag,G,Int.reduceBEq,fs,m8 (w:=w1.drew) (U.aw cd) O];refine(lQ N (i:=x.slot.toNat) dy).mono ?_;rintro _ w2 ⟨rfl,c2⟩;have a9:=cd.trans c2;refine(je (a:=iS c x.slot.toNat) (U.aw a9) O (M.rt dy)).mono ?_;rintro _ w3 ⟨rfl,_,T3,C,H3⟩;have d:=C.off xb _ j (O.tD j E);have Z:=SM.then W ((Gx.bV (S:=SM h T1 o crT) U a9).trans (SM.mem C)) (λ_ h=>h)
  refine(jb (iF M.u _)).mono ?_;rintro _ w4 ⟨rfl,c4⟩;have R4:=C.rel.aw c4;try simp only[ac,fa_233_8]
  refine nd_ws (A':=crA h.wb {x with steps:=x.steps+1,root:=bd (di m (iS c x.slot.toNat))} (.pointer y)) R4 d sz_231 ⟨rfl,rfl,dz⟩ rfl (by show 8+4<=14;omega) λX I D g _ _=>?_;try simp only[ae,ac,fa_233_2]
  refine aC (A':=crA h.wb {x with steps:=x.steps+1,root:=bd (di m (iS c x.slot.toNat)),at':=2} (.pointer y)) D.rel g aE ⟨rfl,rfl⟩ rfl (by show 2<14;omega) λw6 T6 P z _ _=>?_;have l:=D.trans P;exact fin w6 T6 _ B (SM.then (Z.trans (Gx.bV C.rel c4)) (crOne d l) (λ_ h=>h)) (H3.cL l d E) ⟨_,z,λh=>by cases h⟩
 ·have B:eL c m x=(m.set (iS c x.slot.toNat) (lN ⟨bF x.root.gen,1,x.cls,0⟩),{x with steps:=x.steps+1,gen:=bF x.root.gen,done:=true}):=by rw[eL,bY (by rw[Q];decide)];simp[q0]
  have G:ao (hp w1 xb) (0+2)=some (bS 2):=by have t:ao (hp w1 xb) (0+2)=some (bS (x.at':Nat)):=V.at';rw[q0]at t;exact t
  have a1:=L.slot dy;have b1:=L.root;simp only[ac,zS,fa_233_8,fa_231_0,ag,G,Int.reduceBEq,V.rg];refine(c_rLater x.root.gen b1.2 w1 b1.1).step ?_;try simp only[ac,fa_233_6]
  generalize c5:bF x.root.gen=lt at*;refine aC (A':=crA h.wb {x with steps:=x.steps+1,gen:=lt} (.pointer y)) U j aE ⟨rfl,rfl⟩ rfl (by show 6<14;omega) λw2 T2 s b _ _=>?_;have F2:=cr_f s.rel b;have cd:=(ad.refl [] w2).drew;have b5:ai prog (Instr.build 231 #[(0,bS lt),(1,bS 1),(2,bS x.cls)])=some (.agg (lZ ⟨lt,1,x.cls,0⟩)):=bd_231_0_1_2;simp only[ac,zS,fa_233_1,ag,F2.gen,F2.cls,b5];refine(tm _).mono ?_;rintro _ w3 ⟨bb,rfl,c3⟩;have a2:=cd.trans c3;have Y:=O.cL s j E;have F3:=cr_f (s.rel.aw a2) b;have b2:=(ad.refl [] w3).drew;have fs:ao (hp w3 xb) (0+5)=some (bS ((x.slot.toNat:Nat):Int)):=by rw[du a1.1];exact F3.slot
  simp only[jk,jm,ptr,ae,ac,zS,nW,bR,ag,F3.wb,fs,m8 (w:=w3.drew) ((s.rel.aw a2).aw b2) Y];refine(lQ N (i:=x.slot.toNat) dy).mono ?_;rintro _ w4 ⟨rfl,c4⟩;have b3:=(a2.trans b2).trans c4;refine(pa (a:=iS c x.slot.toNat) (s.rel.aw b3) Y (M.rt dy) _).mono ?_;rintro _ X ⟨_,I,D,H5⟩;have g:=D.off xb _ b (Y.tD b E);have b6:=SM.then (SM.then W (crOne j s) (λ_ h=>h)) ((Gx.bV (S:=SM h T2 o crT) s.rel b3).trans (SM.mem D)) (λ_ h=>h)
  try simp only[ae,ac,mi]
  refine aC (A':=crA h.wb {x with steps:=x.steps+1,gen:=lt,done:=true} (.pointer y)) D.rel g mQ ⟨rfl,rfl⟩ rfl (by show 13<14;omega) λw6 T6 P z _ _=>?_;exact fin w6 T6 _ B (SM.then b6 (crOne g P) (λ_ h=>h)) (H5.cL P g E) ⟨_,z,λ_ h=>by cases h⟩
end
section
variable{w w0 w1 w2 w':World}{T T1 T2 T':dN}{h:Hm}{c:cP}{m m':bI}{o o' b sb k q kl wb:Nat}{es es':List TypeId}{x:LkV}
theorem Gx.putL{S:Nat->Prop}{a:Array Value}{e:TypeId}(g:Gx S w T w' T')(f:w.heap.size<=q)(c:T' q=none):Gx S w T (Ev.put w' q a e) T':=
 ⟨g.rel.frame ((aW.put _ q _ _).mono λk b=>by rw[b];exact c),⟨g.aw.os,g.aw.tape,g.aw.output,by rw[nR];exact g.aw.size,λk b d=>by rw[bf,bY dy];exact g.aw.block k b d⟩,g.off,g.own,g.non,g.ty⟩
def lkA(wb:Nat)(x:LkV):Array Value:= #[ptr wb,bS x.slot,bS x.gen,bS x.off,bS x.code,.bool x.done]
def lkN(o wb:Nat)(x:LkV):Nod:= .st o 226 ((lkA wb x).toList.map fQ.v)
def LkR(T:dN)(o kl:Nat)(h:Hm)(x:LkV):Prop:=T kl=some (lkN o h.wb x)
theorem lk_f(R:Rel w T)(hT:T kl=some (lkN o wb x)):ao (hp w kl) (0+0)=some (ptr wb)/\ao (hp w kl) (0+1)=some (bS x.slot)/\ao (hp w kl) (0+2)=some (bS x.gen)/\ao (hp w kl) (0+3)=some (bS x.off)/\ao (hp w kl) (0+4)=some (bS x.code)/\ao (hp w kl) (0+5)=some (.bool x.done):=by
 have hb:hp w kl=some (.cells (lkA wb x) 226):=R.kW hT;rw[hb];exact⟨rfl,rfl,rfl,rfl,rfl,rfl⟩
theorem lk_tail{r:RtV}{e:TypeId}(R:Rel w T)(hT:T kl=some (lkN o wb x))(hb:hp w q=some (.cells (lZ r) e))(m:T q=none):
  P149_0 (ptr kl) (ptr q) w λv w'=>v= .bool true/\∃T',Gx (λk=>k=kl) w T w' T'/\T' kl=some (lkN o wb (if mv r x.gen then{x with off:=r.off,done:=true}else{x with code:=3,done:=true})):=by
 apply L149_0_ok;simp only[L149_0,ptr,ae,ac,fa_226_5];refine aC (A':=lkA wb {x with done:=true}) R hT mQ ⟨rfl,rfl⟩ rfl (by show 5<6;omega) λw1 T1 d a _ _=>?_;obtain⟨_,_,n,_⟩:=lk_f d.rel a;have p:=(ad.refl [] w1).drew;have j:=(d.loc hb m).1;simp only[ac,zS,fa_226_2,ag,n,sO (w:=w1.drew) j];refine(c_Live r x.gen).mono ?_;rintro _ w2 ⟨rfl,s⟩;have b:=p.trans s;have l:=d.rel.aw b;have t:=b.at j (by simp);have f:=d.trans (Gx.bV d.rel b);cases y:mv r x.gen with
 |true=>
  simp only[ac,zS,pK,fa_226_3,ag,(rt_l t).2.2.2];refine aC (A':=lkA wb {x with off:=r.off,done:=true}) l a aE ⟨rfl,rfl⟩ rfl (by show 3<6;omega) λu g i c _ _=>?_;apply L149_1_ok;exact⟨rfl,g,f.trans i,c⟩
 |false=>
  simp only[ac,zS,rV];refine aC (A':=lkA wb {x with code:=3,done:=true}) l a sz_30 ⟨rfl,rfl⟩ rfl (by show 4<6;omega) λu g i c _ _=>?_;apply L149_1_ok;exact⟨rfl,g,f.trans i,c⟩
structure LkOk(c:cP)(x:LkV):Prop where
 slot:0<=x.slot/\x.slot<cS c
def lkT:List TypeId:= [226]
theorem c_LkStep(N:gM c)(R:Rel w T)(H:dM T h c m)(ho:o≠0)(M:eu c m)(A:LkR T o kl h x)(OX:LkOk c x):
  aa prog 149 [ptr kl] w λv w'=>v= .bool (!x.done)/\∃T',Gx (SM h T o lkT) w T w' T'/\dM T' h c m/\LkR T' o kl h (oD c m x):=by
 apply F149_ok (D:=DM T h);have hT:T kl=some (lkN o h.wb x):=A;obtain⟨f0,f1,f2,f3,f4,f5⟩:=lk_f R hT;cases hd:x.done with
 |true=>
  rw[hd]at f5;simp only[F149,ptr,ae,ac,fa_226_5,aB,f5,zS];rw[oD,bX hd];exact⟨by first|rfl|trivial,T,Gx.refl R,H,A⟩
 |false=>
 rw[hd]at f5;have a5:=OX.slot;have b4:=N.b4;have P:=H.tD hT ho;have da:DM T h kl=False:=dn H hT P;have dw:DM T h h.wb=False:=dn H H.wT (by obtain⟨n,hn⟩:=H.mT;exact aA H.wT hn dz);obtain⟨k6,_⟩:=m9 R H;have fs:ao (hp w kl) (0+1)=some (bS ((x.slot.toNat:Nat):Int)):=by rw[du a5.1];exact f1
 have cd:=(ad.refl [] w).drew;have U:=R.aw cd;have g0:Gx (SM h T o lkT) w T w.drew T:=Gx.bV R cd;have a6:w.heap.size<=w.drew.heap.size:=cy _;have one:∀{w w':World} {T T':dN},T kl=some (lkN o h.wb x)->Gx (λq=>q=kl) w T w' T'->Gx (SM h T o lkT) w T w' T':=λhT g=>SO.toM (SO.one (es:= [226]) hT dz g) dz;have e0:oD c m x=if mv (bd (di m (iS c x.slot.toNat))) x.gen then{x with off:=(bd (di m (iS c x.slot.toNat))).off,done:=true}else{x with code:=3,done:=true}:=by rw[oD,bY (by rw[hd];decide)]
 rw[F149];simp only[ptr,ae,ac,fa_226_0,fa_226_1,fa_226_5,bR,fq,aB,ag,gp,bD,f5,f0,fs,k6,zS,p9,da,dw,not_false_eq_true,true_and,m8 (w:=w.drew) U H];refine⟨?_,?_,?_,?_⟩
 ·try simp only[ptr]
  rw[ue];generalize E:World.alloc _ _=V;have f:ad [] w.drew V:=by rw[<- E];exact(ad.refl _ _).alloc _
  have a4:hp V (w.drew).heap.size=some (.cells (lZ ⟨0,0,0,0⟩) 231):=by rw[<- E,af,bX rfl];rfl
  have W:T (w.drew).heap.size=none:=(U).fresh (cy _);have p:w.heap.size<=(w.drew).heap.size:=g0.size;clear E;obtain⟨q,F⟩:∃q,q=(w.drew).heap.size:=⟨_,rfl⟩
  rw[<- F]at a4 W p⊢;have r:=(U).aw f;have z:=g0.trans (Gx.bV (U) f);refine(lQ N (i:=x.slot.toNat) dy).mono ?_;rintro _ v2 ⟨rfl,G⟩;refine⟨bJ G,?_⟩;have s:=(r).aw G;have B:=z.trans (Gx.bV (r) G);have K:=G.at a4 (by simp);refine(je (a:=iS c x.slot.toNat) (s) H (M.rt dy)).mono ?_;rintro _ v3 ⟨rfl,X,T2,t,Y⟩;refine⟨lR (X.mono λk Z=> .inl Z),?_⟩;have j:=t.rel;have C:=SM.then B (SM.mem t) (λ_ h=>h)
  have d:=t.off kl _ hT P;have L:=(t.loc K W).1;have y:=(t.loc K W).2;refine(jb (iF M.u _)).mono ?_;rintro _ v4 ⟨rfl,b⟩;refine⟨bJ b,?_⟩;have a1:=(j).aw b;have I:=C.trans (Gx.bV (j) b);have l:=b.at L (by simp);try simp only[]
  rw[st_rt l rfl];have Q:=Gx.putL (a:=lZ (bd (di m (iS c x.slot.toNat)))) (e:=231) I p y;refine(lk_tail Q.rel d (aq (oG l) _ _) y).mono ?_;rintro _ w9 ⟨rfl,T9,S,J⟩;refine⟨by first|rfl|trivial,T9,SM.then Q (one d S) (λ_ h=>h),Y.cL S d ho,?_⟩;rw[e0];exact J
 ·refine(lQ N (i:=x.slot.toNat) dy).mono ?_;rintro _ V ⟨rfl,f⟩;refine⟨bJ f,?_⟩;have r:=(U).aw f;have z:=g0.trans (Gx.bV (U) f);try simp only[]
  rw[ue];generalize E:World.alloc _ _=v2;have G:ad [] V v2:=by rw[<- E];exact(ad.refl _ _).alloc _
  have K:hp v2 (V).heap.size=some (.cells (lZ ⟨0,0,0,0⟩) 231):=by rw[<- E,af,bX rfl];rfl
  have a2:T (V).heap.size=none:=(r).fresh (cy _);have p:w.heap.size<=(V).heap.size:=z.size;clear E;obtain⟨q,F⟩:∃q,q=(V).heap.size:=⟨_,rfl⟩
  rw[<- F]at K a2 p⊢;have s:=(r).aw G;have B:=z.trans (Gx.bV (r) G);refine(je (a:=iS c x.slot.toNat) (s) H (M.rt dy)).mono ?_;rintro _ v3 ⟨rfl,X,T2,t,Y⟩;refine⟨lR (X.mono λk Z=> .inl Z),?_⟩;have j:=t.rel;have C:=SM.then B (SM.mem t) (λ_ h=>h)
  have d:=t.off kl _ hT P;have L:=(t.loc K a2).1;have y:=(t.loc K a2).2;refine(jb (iF M.u _)).mono ?_;rintro _ v4 ⟨rfl,b⟩;refine⟨bJ b,?_⟩;have a1:=(j).aw b;have I:=C.trans (Gx.bV (j) b);have l:=b.at L (by simp);try simp only[]
  rw[st_rt l rfl];have Q:=Gx.putL (a:=lZ (bd (di m (iS c x.slot.toNat)))) (e:=231) I p y;refine(lk_tail Q.rel d (aq (oG l) _ _) y).mono ?_;rintro _ w9 ⟨rfl,T9,S,J⟩;refine⟨by first|rfl|trivial,T9,SM.then Q (one d S) (λ_ h=>h),Y.cL S d ho,?_⟩;rw[e0];exact J
 ·refine(lQ N (i:=x.slot.toNat) dy).mono ?_;rintro _ V ⟨rfl,f⟩;refine⟨bJ f,?_⟩;have r:=(U).aw f;have z:=g0.trans (Gx.bV (U) f);refine(je (a:=iS c x.slot.toNat) (r) H (M.rt dy)).mono ?_;rintro _ v2 ⟨rfl,X,T2,t,Y⟩;refine⟨lR (X.mono λk Z=> .inl Z),?_⟩;have s:=t.rel;have B:=SM.then z (SM.mem t) (λ_ h=>h)
  have d:=t.off kl _ hT P;try simp only[]
  rw[ue];generalize E:World.alloc _ _=v3;have O:ad [] v2 v3:=by rw[<- E];exact(ad.refl _ _).alloc _
  have L:hp v3 (v2).heap.size=some (.cells (lZ ⟨0,0,0,0⟩) 231):=by rw[<- E,af,bX rfl];rfl
  have y:T2 (v2).heap.size=none:=(s).fresh (cy _);have p:w.heap.size<=(v2).heap.size:=B.size;clear E;obtain⟨q,F⟩:∃q,q=(v2).heap.size:=⟨_,rfl⟩
  rw[<- F]at L y p⊢;have j:=(s).aw O;have C:=B.trans (Gx.bV (s) O);refine(jb (iF M.u _)).mono ?_;rintro _ v4 ⟨rfl,b⟩;refine⟨bJ b,?_⟩;have a1:=(j).aw b;have I:=C.trans (Gx.bV (j) b);have l:=b.at L (by simp);try simp only[]
  rw[st_rt l rfl];have Q:=Gx.putL (a:=lZ (bd (di m (iS c x.slot.toNat)))) (e:=231) I p y;refine(lk_tail Q.rel d (aq (oG l) _ _) y).mono ?_;rintro _ w9 ⟨rfl,T9,S,J⟩;refine⟨by first|rfl|trivial,T9,SM.then Q (one d S) (λ_ h=>h),Y.cL S d ho,?_⟩;rw[e0];exact J
 ·refine(lQ N (i:=x.slot.toNat) dy).mono ?_;rintro _ V ⟨rfl,f⟩;refine⟨bJ f,?_⟩;have r:=(U).aw f;have z:=g0.trans (Gx.bV (U) f);refine(je (a:=iS c x.slot.toNat) (r) H (M.rt dy)).mono ?_;rintro _ v2 ⟨rfl,X,T2,t,Y⟩;refine⟨lR (X.mono λk Z=> .inl Z),?_⟩;have s:=t.rel;have B:=SM.then z (SM.mem t) (λ_ h=>h)
  have d:=t.off kl _ hT P;refine(jb (iF M.u _)).mono ?_;rintro _ v3 ⟨rfl,O⟩;refine⟨bJ O,?_⟩;have j:=(s).aw O;have C:=B.trans (Gx.bV (s) O);try simp only[]
  rw[ue];generalize E:World.alloc _ _=v4;have b:ad [] v3 v4:=by rw[<- E];exact(ad.refl _ _).alloc _
  have l:hp v4 (v3).heap.size=some (.cells (lZ ⟨0,0,0,0⟩) 231):=by rw[<- E,af,bX rfl];rfl
  have a3:T2 (v3).heap.size=none:=(j).fresh (cy _);have p:w.heap.size<=(v3).heap.size:=C.size;clear E;obtain⟨q,F⟩:∃q,q=(v3).heap.size:=⟨_,rfl⟩
  rw[<- F]at l a3 p⊢;have a1:=(j).aw b;have I:=C.trans (Gx.bV (j) b);try simp only[ptr]
  rw[st_rt l rfl];have Q:=Gx.putL (a:=lZ (bd (di m (iS c x.slot.toNat)))) (e:=231) I p a3;refine(lk_tail Q.rel d (aq (oG l) _ _) a3).mono ?_;rintro _ w9 ⟨rfl,T9,S,J⟩;refine⟨by first|rfl|trivial,T9,SM.then Q (one d S) (λ_ h=>h),Y.cL S d ho,?_⟩;rw[e0];exact J
end
section
variable{w w0 w1 w2 w':World}{T T1 T2 T':dN}{h:Hm}{c:cP}{m m':bI}{o o' b sb lb k q xb wb:Nat}{es es':List TypeId}{su:lO}{x:AdV}
def adA(a:Nat)(x:AdV):Array Value:= #[ptr a,bS x.at',bT x.old,.bool x.won,.bool x.done]
def adN(o a:Nat)(x:AdV):Nod:= .st o 268 ((adA a x).toList.map fQ.v)
def AdR(T:dN)(o xb:Nat)(h:Hm)(x:AdV):Prop:=T xb=some (adN o h.eb x)
structure AdF(w:World)(xb pb:Nat)(x:AdV):Prop where
 e:ao (hp w xb) (0+0)=some (ptr pb)
 at':ao (hp w xb) (0+1)=some (bS x.at')
 old:ao (hp w xb) (0+2)=some (bT x.old)
 won:ao (hp w xb) (0+3)=some (.bool x.won)
 done:ao (hp w xb) (0+4)=some (.bool x.done)
theorem ad_f{a:Nat}(R:Rel w T)(hT:T xb=some (adN o a x)):AdF w xb a x:=by
 have hb:hp w xb=some (.cells (adA a x) 268):=R.kW hT;constructor<;>rw[hb]<;>rfl
theorem ep_f(R:Rel w T)(H:dM T h c m):ao (hp w h.eb) (0+0)=some (ptr h.mb)/\ao (hp w h.eb) (0+1)=some (bS 2)/\ao (hp w h.eb) (0+2)=some (bS (fS c 0))/\ao (hp w h.eb) (0+3)=some (bS (cW c)):=by
 rw[R.kW H.eT];exact⟨rfl,rfl,rfl,rfl⟩
structure AdOk(c:cP)(x:AdV):Prop where
 at':x.at'<=cW c+1
 old:tk x.old
def adT:List TypeId:= [268]
theorem c_AdStep(N:gM c)(R:Rel w T)(H:dM T h c m)(p:o≠0)(M:eu c m)(A:AdR T o xb h x)(W:AdOk c x):
  aa prog 201 [ptr xb] w λv w'=>v= .bool (!x.done)/\∃T',Gx (SM h T o adT) w T w' T'/\dM T' h c (fH c m x).1/\AdR T' o xb h (fH c m x).2:=by
 apply F201_ok;have hT:T xb=some (adN o h.eb x):=A;have F:=ad_f R hT;have one:∀{w w':World} {T T':dN} {x:AdV},T xb=some (adN o h.eb x)->Gx (λq=>q=xb) w T w' T'->Gx (SM h T o adT) w T w' T':=λhT g=>SO.toM (SO.one (es:= [268]) hT dz g) dz;cases k:x.done with
 |true=>
  have Fd:=F.done;rw[k]at Fd;simp only[F201,ptr,ae,ac,nY,aB,Fd,zS];rw[fH,bX k];exact⟨by first|rfl|trivial,T,Gx.refl R,H,A⟩
 |false=>
 have Fd:=F.done;rw[k]at Fd;have b1:=N.b1;have oa:=W.at';obtain⟨r,z,K,B⟩:=ep_f R H;have fin:∀(E:World) (G:dN) (L:bI) (C:AdV),C.at'=x.at'->fH c m x=(L,{C with at':=x.at'+1})->Gx (SM h T o adT) w T E G->dM G h c L->G xb=some (adN o h.eb C)->P201_0 (ptr xb) E (λv w'=>v= .bool true/\∃T',Gx (SM h T o adT) w T w' T'/\dM T' h c (fH c m x).1/\AdR T' o xb h (fH c m x).2):=by
  intro E G L C ha e O h2 I;apply L201_0_ok;have F5:=ad_f O.rel I;have fa:ao (hp E xb) (0+1)=some (bS (x.at':Nat)):=by rw[<- ha];exact F5.at'
  have ew:IntKind.i64.wrap ((x.at':Int)+1)=((x.at'+1:Nat):Int):=by rw[ap dy dy];omega
  simp only[L201_0,ptr,ae,ac,fa_268_1,ag,fa,aj,ew];refine aC (A':=adA h.eb {C with at':=x.at'+1}) O.rel I aE ⟨rfl,rfl⟩ rfl (by show 1<5;omega) λw6 T6 X P _ _=>?_;rw[e];exact⟨by first|rfl|trivial,T6,SM.then O (one I X) (λ_ h=>h),h2.cL X I p,P⟩
 rw[F201];by_cases J:x.at'=0
 ·have j:fH c m x=(m,{x with old:=di m 2,at':=x.at'+1}):=by rw[fH,bY (by rw[k];decide),bX J]
  have Fa:ao (hp w xb) (0+1)=some (bS 0):=by have t:ao (hp w xb) (0+1)=some (bS (x.at':Nat)):=F.at';rw[J]at t;exact t
  simp only[ptr,ae,ac,zS,fa_268_0,fa_268_1,nY,pG,fa_158_1,aB,ag,qz,bD,Fd,F.e,Fa,r,z];refine(je (a:=2) R H M.two).mono ?_;rintro _ w1 ⟨rfl,_,T1,f,y⟩;have b:=f.off xb _ hT (H.tD hT p);try simp only[ac,fa_268_2]
  refine aC (A':=adA h.eb {x with old:=di m 2}) f.rel b sz_33 ⟨rfl,rfl⟩ rfl (by show 2<5;omega) λw2 T2 i d _ _=>?_;exact fin w2 T2 m {x with old:=di m 2} rfl j (SM.then (SM.mem f) (one b i) (λ_ h=>h)) (y.cL i b p) d
 ·have Y:((x.at':Int)==0)=false:=cN dy;have cd:=(ad.refl [] w).drew;have l:=cd.trans (ad.refl [] w.drew).drew;by_cases Z:x.at'<=cW c
  ·have j:fH c m x=(m,{x with done:=decide (di m (fS c (x.at'-1))%2≠0/\di m (fS c (x.at'-1))/2≠fP x.old),at':=x.at'+1}):=by rw[fH,bY (by rw[k];decide),bY J,bX Z]
   have s:(x.at':Int)<=(cW c:Int):=dy;have Q:IntKind.i64.wrap ((fS c 0:Int)+(x.at':Int))=(fS c 0:Int)+(x.at':Int):=ap dy (by unfold fS;omega);have S:IntKind.i64.wrap ((fS c 0:Int)+(x.at':Int)-1)=((fS c (x.at'-1):Nat):Int):=by rw[ap (by unfold fS;omega) (by unfold fS;omega)];unfold fS;omega
   simp only[ptr,ae,ac,zS,fa_268_0,fa_268_1,nY,pG,fa_158_2,fa_158_3,aB,ag,qz,bD,Fd,F.e,F.at',r,K,B,Y,s,aj,aZ,Q,S];refine(je (a:=fS c (x.at'-1)) (R.aw l) H (M.pin dy)).mono ?_;rintro _ w1 ⟨rfl,_,T1,f,y⟩;have b:=f.off xb _ hT (H.tD hT p);have n:Gx (SM h T o adT) w T w1 T1:=(Gx.bV R l).trans (SM.mem f);have hu:=iF M.u (fS c (x.at'-1));generalize hv:di m (fS c (x.at'-1))=v at*;refine(c_GetPin hu).step ?_;have F1:=ad_f f.rel b;by_cases hp:v%2=0
   ·have j:fH c m x=(m,{x with at':=x.at'+1}):=by rw[j];simp[hp,k]
    simp only[ac,jk,jm,zS,hp,ne_eq,not_true_eq_false];refine aC (A':=adA h.eb {x with done:=false}) f.rel b mQ ⟨rfl,rfl⟩ rfl (by show 4<5;omega) λw2 T2 i d _ _=>?_;exact fin w2 T2 m {x with done:=false} rfl (by rw[j];cases x;simp only at k;rw[k]) (SM.then n (one b i) (λ_ h=>h)) (y.cL i b p) d
   ·have j:fH c m x=(m,{x with done:=decide (v/2≠fP x.old),at':=x.at'+1}):=by rw[j];simp[hp]
    simp only[ae,ac,jk,jm,zS,hp,reduceIte,ne_eq,not_false_eq_true,fa_268_2,bx,F1.old];refine(c_Cut5 W.old).step ?_;have U:(v/2 !=fP x.old)=decide (v/2≠fP x.old):=by
     by_cases hh:v/2=fP x.old
     ·simp[hh]
     ·simp[hh,bne]
    simp only[ac,zS,U];refine aC (A':=adA h.eb {x with done:=decide (v/2≠fP x.old)}) f.rel b mQ ⟨rfl,rfl⟩ rfl (by show 4<5;omega) λw2 T2 i d _ _=>?_;exact fin w2 T2 m {x with done:=decide (v/2≠fP x.old)} rfl j (SM.then n (one b i) (λ_ h=>h)) (y.cL i b p) d
  ·have s:¬(x.at':Int)<=(cW c:Int):=dy;have j:fH c m x=(if di m 2=x.old then(m.set 2 (IntKind.u64.wrap (x.old+1)),{x with won:=true,done:=true,at':=x.at'+1})else(m,{x with won:=false,done:=true,at':=x.at'+1})):=by rw[fH,bY (by rw[k];decide),bY J,bY Z]
   simp only[ptr,ae,ac,zS,fa_268_0,fa_268_1,fa_268_2,nY,pG,fa_158_1,fa_158_3,aB,ag,bx,qz,bD,Fd,F.e,F.at',F.old,r,z,B,Y,s,aj];refine(c_Cas (a:=2) (R.aw l) H M.two x.old _).mono ?_;rintro _ w1 ⟨rfl,_,T1,f,y⟩;have b:=f.off xb _ hT (H.tD hT p);have n:Gx (SM h T o adT) w T w1 T1:=(Gx.bV R l).trans (SM.mem f);try simp only[ac,fa_268_3]
   refine aC (A':=adA h.eb {x with won:=decide (di m 2=x.old)}) f.rel b mQ ⟨rfl,rfl⟩ rfl (by show 3<5;omega) λw2 T2 i d _ _=>?_;try simp only[ptr,ae,ac,nY]
   refine aC (A':=adA h.eb {x with won:=decide (di m 2=x.old),done:=true}) i.rel d mQ ⟨rfl,rfl⟩ rfl (by show 4<5;omega) λw3 T3 g3 V _ _=>?_;have D:=i.trans g3;refine fin w3 T3 (if di m 2=x.old then m.set 2 (IntKind.u64.wrap (x.old+1))else m) {x with won:=decide (di m 2=x.old),done:=true} rfl ?_ (SM.then n (one b D) (λ_ h=>h)) (y.cL D b p) V;rw[j];by_cases hc:di m 2=x.old
   ·simp[hc]
   ·simp[hc]
end
section
variable{w w0 w1 w2 w':World}{T T1 T2 T':dN}{h:Hm}{c:cP}{m m':bI}{o o' b sb lb k q xb wb ab:Nat}{es es':List TypeId}{su:lO}{x:CoV}{av gv:Value}
theorem extD_b{D:Nat->Prop}(b:∀k,¬D k->hp w' k=hp w k):ExtD D w w':=λa v c hv=>by
 have hb:w'.heap[a.block]? =w.heap[a.block]? :=b a.block c;unfold World.cell? at hv⊢;rw[hb];exact hv
theorem Gx.same{S:Nat->Prop}{e:TypeId}{vs:List Value}(R:Rel w T)(g:Gx S w T w' T')(hT:T k=some (.st o e (vs.map fQ.v)))(a:¬S k):hp w' k=hp w k:=by
 rw[g.rel.kW (g.off k _ hT a),R.kW hT]
def coA(b:Nat)(x:CoV)(av gv:Value):Array Value:= #[ptr b,bS x.at',av,gv,.bool x.won,.bool x.done]
def coN(o b:Nat)(x:CoV)(av gv:Value):Nod:= .st o 246 ((coA b x av gv).toList.map fQ.v)
structure CoF(w:World)(xb b:Nat)(x:CoV)(av gv:Value):Prop where
 s:ao (hp w xb) (0+0)=some (ptr b)
 at':ao (hp w xb) (0+1)=some (bS x.at')
 a:ao (hp w xb) (0+2)=some av
 g:ao (hp w xb) (0+3)=some gv
 won:ao (hp w xb) (0+4)=some (.bool x.won)
 done:ao (hp w xb) (0+5)=some (.bool x.done)
theorem co_f(R:Rel w T)(hT:T xb=some (coN o b x av gv)):CoF w xb b x av gv:=by
 have hb:hp w xb=some (.cells (coA b x av gv) 246):=R.kW hT;constructor<;>rw[hb]<;>rfl
def CoR(w:World)(T:dN)(o xb b:Nat)(h:Hm)(x:CoV):Prop:=∃ab z,T xb=some (coN o b x (ptr ab) (.pointer z))/\AdR T o ab h x.a/\(x.at'=2->x.done=false->∃c,z=some ⟨c,0,none⟩/\GiR w T o c h x.g)
def coT:List TypeId:= [258,262,268,282,293,246]
theorem c_Collect(R:Rel w T)(H:dM T h c m)(U:fX w T o b sb lb h c su):aa prog 144 [ptr b] w λv w'=>∃xb T',v=ptr xb/\Gx (λ_=>False) w T w' T'/\CoR w' T' o xb b h coNew:=by
 apply F144_ok;obtain⟨u0,_,_⟩:=qa R U;obtain⟨_,_,_,_,f⟩:=m9 R H;have d:ai prog (Instr.build 268 #[(0,ptr h.eb)])=some (.agg (adA h.eb ⟨0,0,false,false⟩)):=bd_268_0;simp only[ptr]at d;simp only[F144,ptr,ae,ac,jv,fa_153_4,gp,qz,u0,f,d,ak,au];have g:=Gx.p8 (S:=λ_=>False) R o 268 (adA h.eb ⟨0,0,false,false⟩).toList;have a:ai prog (Instr.build 246 #[(0,ptr b),(2,ptr w.heap.size)])=some (.agg (coA b coNew (ptr w.heap.size) (.pointer none))):=bd_246_0_2;simp only[ptr]at a;simp only[a,au,ac];have e:=Gx.p8 (S:=λ_=>False) g.rel o 246 (coA b coNew (ptr w.heap.size) (.pointer none)).toList;exact⟨_,_,rfl,g.trans e,w.heap.size,none,ax,e.off w.heap.size (adN o h.eb ⟨0,0,false,false⟩) ax (λh=>h),λh=>by cases h⟩
structure CoOk(c:cP)(x:CoV):Prop where
 at':x.at'<=2
 a:x.at'=0->AdOk c x.a
 g:x.at'=2->tE (bP c) x.g.p
theorem coOne(hT:T xb=some (coN o b x av gv))(g:Gx (λq=>q=xb) w T w' T'):Gx (SM h T o coT) w T w' T':=SO.toM (SO.one (es:= [246]) hT dz g) dz
theorem coUnU(U:fX w T o b sb lb h c su)(hT:T xb=some (coN o' b x av gv))(g:Gx (λq=>q=xb) w T w' T'):fX w' T' o b sb lb h c su:=
 U.gx g (aA U.n hT dz) (by obtain⟨_,a,_⟩:=U.s;exact aA a hT dz) (by obtain⟨_,a,_⟩:=U.l;exact aA a hT dz)
theorem c_CoStep(N:gM c)(R:Rel w T)(H:dM T h c m)(j:o≠0)(M:eu c m)(U:fX w T o b sb lb h c su)(O:rn su)(a6:(fT su (fP (di m 2))).st.length<=100000)(A:CoR w T o xb b h x)(OX:CoOk c x):
  aa prog 152 [ptr xb] w λv w'=>v= .bool (!x.done)/\∃T',Gx (SM h T o coT) w T w' T'/\dM T' h c (ft c m su x).1/\fX w' T' o b sb lb h c (ft c m su x).2.1/\CoR w' T' o xb b h (ft c m su x).2.2:=by
 apply F152_ok (D:=λk=>k≠xb/\k≠b/\k≠h.wb);have A0:=A;obtain⟨ab,z,hT,E,hz⟩:=A;have F:=co_f R hT;cases hd:x.done with
 |true=>
  have Fd:=F.done;rw[hd]at Fd;simp only[F152,ptr,ae,ac,pO,aB,Fd,zS];rw[ft,bX hd];exact⟨by first|rfl|trivial,T,Gx.refl R,H,U,A0⟩
 |false=>
 have Fd:=F.done;rw[hd]at Fd;have fin:∀(L:World) (P:dN) (r:bI×lO×CoV),ft c m su x=r->Gx (SM h T o coT) w T L P->dM P h c r.1->fX L P o b sb lb h c r.2.1->CoR L P o xb b h r.2.2->P152_0 L (λv w'=>v= .bool true/\∃T',Gx (SM h T o coT) w T w' T'/\dM T' h c (ft c m su x).1/\fX w' T' o b sb lb h c (ft c m su x).2.1/\CoR w' T' o xb b h (ft c m su x).2.2):=by
  rintro L P r rfl h1 h2 h3 h4;apply L152_0_ok;exact⟨rfl,P,h1,h2,h3,h4⟩
 rw[F152];have A3:x.at'=0\/x.at'=1\/x.at'=2:=by have:=OX.at';omega
 rcases A3 with q0|q0|q0
 ·have Q:ft c m su x=((fH c m x.a).1,su,if(fH c m x.a).2.done then{x with a:=(fH c m x.a).2,won:=(fH c m x.a).2.won,at':=1}else{x with a:=(fH c m x.a).2}):=by rw[ft,bY (by rw[hd];decide),bX q0]
  have Fa:ao (hp w xb) (0+1)=some (bS 0):=by have t:ao (hp w xb) (0+1)=some (bS (x.at':Nat)):=F.at';rw[q0]at t;exact t
  simp only[ptr,ae,ac,zS,rX,fa_246_2,pO,aB,ag,ld_244,Fd,Fa,F.a];refine(c_AdStep N R H j M E (OX.a q0)).mono ?_;rintro _ w2 ⟨rfl,T2,l,H2,Y⟩;have d:=l.off xb _ hT (SM.un H hT j (.inr dz));have U2:=U.sm H l j (.inr dz);have a4:Gx (SM h T o coT) w T w2 T2:=l.mono λk hk=>hk.imp id fun⟨e,cs,p,q⟩=>⟨e,cs,p,(show∀e∈adT,e∈coT by decide) e q⟩
  generalize hr:fH c m x.a=r at*;obtain⟨m2,a2⟩:=r;simp only at Q Y H2;have F2:=co_f l.rel d;have G2:=ad_f l.rel Y;cases V:a2.done with
  |false=>
   have B:=G2.done;rw[V]at B;rw[bY (by rw[V];decide)]at Q;simp only[ptr,ae,ac,zS,nY,aB,F2.a,B];exact fin w2 T2 _ Q a4 H2 U2 ⟨ab,z,d,Y,λh=>absurd (q0.symm.trans h) dz⟩
  |true=>
   have B:=G2.done;rw[V]at B;rw[bX V]at Q;simp only[ptr,ae,ac,zS,fa_246_4,fa_268_3,nY,aB,F2.a,B,G2.won];refine aC (A':=coA b {x with a:=a2,won:=a2.won} (ptr ab) (.pointer z)) l.rel d mQ ⟨rfl,rfl⟩ rfl (by show 4<6;omega) λw3 T3 Z f _ _=>?_;try simp only[ptr,ae,ac,rX]
   refine aC (A':=coA b {x with a:=a2,won:=a2.won,at':=1} (ptr ab) (.pointer z)) Z.rel f aE ⟨rfl,rfl⟩ rfl (by show 1<6;omega) λw4 T4 g4 a1 _ _=>?_;have W:=Z.trans g4;exact fin w4 T4 _ Q (SM.then a4 (coOne d W) (λ_ h=>h)) (H2.cL W d j) (coUnU U2 d W) ⟨ab,z,a1,W.off ab _ Y (aA Y d dz),λh=>by cases h⟩
 ·have Q:ft c m su x=(m,(nr (fT su (fP (di m 2)))).2,{x with g:=iE (nr (fT su (fP (di m 2)))).1,at':=2,done:=decide ((nr (fT su (fP (di m 2)))).1.length=0)}):=by rw[ft,bY (by rw[hd];decide),bY dy,bX q0]
  have Fa:ao (hp w xb) (0+1)=some (bS 1):=by have t:ao (hp w xb) (0+1)=some (bS (x.at':Nat)):=F.at';rw[q0]at t;exact t
  obtain⟨u0,_,_⟩:=qa R U;obtain⟨k6,_⟩:=m9 R H;have d1:((xb≠xb/\xb≠b/\xb≠h.wb))=False:=by simp
  have d2:((b≠xb/\b≠b/\b≠h.wb))=False:=by simp
  have d3:((h.wb≠xb/\h.wb≠b/\h.wb≠h.wb))=False:=by simp
  have xt:∀{w1 w2:World} {T1 T2:dN} {S:Nat->Prop},Rel w1 T1->Gx S w1 T1 w2 T2->(∃ vs:List Value,T1 xb=some (.st o 246 (vs.map fQ.v)))->T1 b=some (.st o 215 ([ptr h.wb,ptr sb,ptr lb].map fQ.v))->T1 h.wb=some (.st 0 153 ((homeL h c).map fQ.v))->¬S xb->¬S b->¬S h.wb->ExtD (λk=>k≠xb/\k≠b/\k≠h.wb) w1 w2:=by
   rintro w1 w2 T1 T2 S R1 g ⟨vs,t1⟩ t2 t3 s1 s2 s3;refine extD_b λk hk=>?_;by_cases h1:k=xb
   ·rw[h1];exact Gx.same R1 g t1 s1
   ·by_cases h2:k=b
    ·rw[h2];exact Gx.same R1 g t2 s2
    ·by_cases h3:k=h.wb
     ·rw[h3];exact Gx.same R1 g t3 s3
     ·exact absurd ⟨h1,h2,h3⟩ hk
  have cd:=(ad.refl [] w).drew;have a7:∀{T1:dN} {m1:bI},dM T1 h c m1->¬h.wb=h.mb:=λH1=>by obtain⟨n,hn⟩:=H1.mT;exact aA H1.wT hn dz
  simp only[ptr,ae,ac,zS,fa_246_0,rX,pO,jv,fq,aB,ag,jO,gp,bD,Fd,Fa,Int.reduceBEq,F.s,u0,k6,p9,d1,d2,d3,not_false_eq_true,true_and];refine(je (a:=2) (R.aw cd) H M.two).mono ?_;rintro _ w1 ⟨rfl,_,T1,g1,H1⟩;refine⟨xt (R.aw cd) g1 ⟨_,hT⟩ U.n H.wT (H.tD hT j) (H.tD U.n j) (a7 H),?_⟩;have X:=g1.off xb _ hT (H.tD hT j);have U1:=(U.aw cd).sm (o':=o) (es:= []) H (SM.mem g1) j (.inr dz);have E1:AdR T1 o ab h x.a:=g1.off ab _ E (H.tD E j);have a8:Gx (SM h T o coT) w T w1 T1:=(Gx.bV R cd).trans (SM.mem g1);refine(c_Cut5 (iF M.u 2)).step ?_;refine⟨bJ (ad.refl _ _),?_⟩;refine(c_SuReady g1.rel U1 O (cut_rng (iF M.u 2))).mono ?_;rintro _ w2 ⟨T2,l,U2⟩;refine⟨xt g1.rel l ⟨_,X⟩ U1.n H1.wT (SO.un X (.inr dz)) (SO.un U1.n (.inr dz)) (SO.un H1.wT (.inr dz)),?_⟩;have d:=l.off xb _ X (SO.un X (.inr dz));have Y:AdR T2 o ab h x.a:=l.off ab _ E1 (SO.un E1 (.inr dz));have H2:=H1.so l j;have F2:=co_f l.rel d;generalize b2:fT su (fP (di m 2))=C at*;simp only[ptr,ac,F2.s];refine(c_SuAll l.rel H2 j U2 a6).mono ?_;rintro _ w3 ⟨I,T3,rfl,Z,U3,G3⟩;have f:=Z.off xb _ d (SO.un d (.inr dz));have E3:AdR T3 o ab h x.a:=Z.off ab _ Y (SO.un Y (.inr dz));have H3:=H2.so Z j;have a9:=SM.then (SM.then a8 (SO.toM (h:=h) (es':=coT) l dz) (λ_ h=>h)) (SO.toM (h:=h) (es':=coT) Z dz) (λ_ h=>h)
  try simp only[ptr,ac,fa_246_3]
  refine aC (A':=coA b {x with g:=iE (nr C).1} (ptr ab) (ptr I)) Z.rel f sz_235 ⟨rfl,rfl⟩ rfl (by show 3<6;omega) λw4 T4 g4 a1 _ _=>?_;try simp only[ptr,ae,ac,rX]
  refine aC (A':=coA b {x with g:=iE (nr C).1,at':=2} (ptr ab) (ptr I)) g4.rel a1 aE ⟨rfl,rfl⟩ rfl (by show 1<6;omega) λL P y i _ _=>?_;have a5:=g4.trans y;have F5:=co_f y.rel i;have G5:=G3.gx a5 (by obtain⟨q,v,J,_⟩:=G3;exact aA J f dz) (λq cs J=>aA J f dz);have d5:ao (hp L I) (0+2)=some (.bool (iE (nr C).1).done):=by obtain⟨q,v,hg,_⟩:=G5;rw[nd_l y.rel hg];rfl
  simp only[ptr,ae,ac,mO,ld_235,aB,F5.g,d5];refine aC (A':=coA b {x with g:=iE (nr C).1,at':=2,done:=(iE (nr C).1).done} (ptr ab) (ptr I)) y.rel i mQ ⟨rfl,rfl⟩ rfl (by show 5<6;omega) λw6 T6 g6 a3 _ _=>?_;have K:=a5.trans g6;have G6:=G3.gx K (by obtain⟨q,v,J,_⟩:=G3;exact aA J f dz) (λq cs J=>aA J f dz);exact fin w6 T6 _ Q (SM.then a9 (coOne f K) (λ_ h=>h)) (H3.cL K f j) (coUnU U3 f K) ⟨ab,some ⟨I,0,none⟩,a3,K.off ab _ E3 (aA E3 f dz),λ_ _=>⟨I,rfl,G6⟩⟩
 ·have Q:ft c m su x=((dJ c m x.g).1,su,{x with g:=(dJ c m x.g).2,done:=(dJ c m x.g).2.done}):=by rw[ft,bY (by rw[hd];decide),bY dy,bY dy]
  have Fa:ao (hp w xb) (0+1)=some (bS 2):=by have t:ao (hp w xb) (0+1)=some (bS (x.at':Nat)):=F.at';rw[q0]at t;exact t
  obtain⟨I,rfl,G⟩:=hz q0 hd;simp only[ptr,ae,ac,zS,rX,fa_246_3,pO,aB,ag,ld_235,Fd,Fa,Int.reduceBEq,F.g];refine(c_GiStep R H j (M.pool N) G (OX.g q0)).mono ?_;rintro _ L ⟨P,y,H5,G5⟩;have i:=y.off xb _ hT (SM.un H hT j (.inr dz));have E5:AdR P o ab h x.a:=y.off ab _ E (SM.un H E j (.inr dz));have b1:Gx (SM h T o coT) w T L P:=y.mono λk hk=>hk.imp id fun⟨e,cs,p,q⟩=>⟨e,cs,p,(show∀e∈ [282,293],e∈coT by decide) e q⟩
  have U5:=U.sm H y j (.inr dz);have F5:=co_f y.rel i;have d4:ao (hp L I) (0+2)=some (.bool (dJ c m x.g).2.done):=by obtain⟨q,v,hg,_⟩:=G5;rw[nd_l y.rel hg];rfl
  simp only[ae,ac,mO,aB,F5.g,d4];refine aC (A':=coA b {x with g:=(dJ c m x.g).2,done:=(dJ c m x.g).2.done} (ptr ab) (ptr I)) y.rel i mQ ⟨rfl,rfl⟩ rfl (by show 5<6;omega) λw6 T6 g6 a3 _ _=>?_;have G6:=G5.gx g6 (by obtain⟨q,v,J,_⟩:=G5;exact aA J i dz) (λq cs J=>aA J i dz);exact fin w6 T6 _ Q (SM.then b1 (coOne i g6) (λ_ h=>h)) (H5.cL g6 i j) (coUnU U5 i g6) ⟨ab,some ⟨I,0,none⟩,a3,g6.off ab _ E5 (aA E5 i dz),λ_ _=>⟨I,rfl,G6⟩⟩
end
section
variable{w w0 w1 w2 w':World}{T T1 T2 T':dN}{h:Hm}{c:cP}{m m':bI}{o o' b sb lb k q xb wb ab:Nat}{es es':List TypeId}{x:EnV}{id:Nat}
def enA(a id:Nat)(x:EnV):Array Value:= #[ptr a,bS id,bS x.at',bS x.epoch,.bool x.done]
def enN(o a id:Nat)(x:EnV):Nod:= .st o 220 ((enA a id x).toList.map fQ.v)
def EnR(T:dN)(o xb:Nat)(h:Hm)(id:Nat)(x:EnV):Prop:=T xb=some (enN o h.eb id x)
theorem en_f{a:Nat}(R:Rel w T)(hT:T xb=some (enN o a id x)):ao (hp w xb) (0+0)=some (ptr a)/\ao (hp w xb) (0+1)=some (bS id)/\ao (hp w xb) (0+2)=some (bS x.at')/\ao (hp w xb) (0+3)=some (bS x.epoch)/\ao (hp w xb) (0+4)=some (.bool x.done):=by
 have hb:hp w xb=some (.cells (enA a id x) 220):=R.kW hT;rw[hb];exact⟨rfl,rfl,rfl,rfl,rfl⟩
def enT:List TypeId:= [220]
def my(c:cP)(id:Nat)(m:bI)(x:EnV):bI×EnV:=if x.at'=0 then(m,⟨1,fP (di m 2),false⟩)else(m.set (fS c id) (pinW x.epoch),{x with done:=true})
theorem c_EnStep(N:gM c)(R:Rel w T)(H:dM T h c m)(l:o≠0)(M:eu c m)(A:EnR T o xb h id x)(p:id<cW c)(F:x.done=false):
  aa prog 147 [ptr xb] w λv w'=>v= .bool true/\∃T',Gx (SM h T o enT) w T w' T'/\dM T' h c (my c id m x).1/\EnR T' o xb h id (my c id m x).2:=by
 apply F147_ok;have hT:T xb=some (enN o h.eb id x):=A;have one:∀{w w':World} {T T':dN} {x:EnV},T xb=some (enN o h.eb id x)->Gx (λq=>q=xb) w T w' T'->Gx (SM h T o enT) w T w' T':=λhT g=>SO.toM (SO.one (es:= [220]) hT dz g) dz;obtain⟨f0,f1,r,G,s⟩:=en_f R hT;rw[F]at s;have Q:=N.b1;obtain⟨i,t,y,I⟩:=ep_f R H;have n:=(ad.refl [] w).drew;rw[F147];by_cases z:x.at'=0
 ·have B:my c id m x=(m,⟨1,fP (di m 2),false⟩):=by rw[my,bX z]
  have J:ao (hp w xb) (0+2)=some (bS 0):=by rw[z]at r;exact r
  simp only[ptr,ae,ac,zS,fa_220_0,fa_220_2,rU,pG,fa_158_1,aB,ag,qz,bD,s,f0,J,i,t];refine(je (a:=2) (R.aw n) H M.two).mono ?_;rintro _ w1 ⟨rfl,_,T1,d,C⟩;have b:=d.off xb _ hT (H.tD hT l);have e:Gx (SM h T o enT) w T w1 T1:=(Gx.bV R n).trans (SM.mem d);refine(c_Cut5 (iF M.u 2)).step ?_;try simp only[ac,fa_220_3]
  refine aC (A':=enA h.eb id {x with epoch:=fP (di m 2)}) d.rel b aE ⟨rfl,rfl⟩ rfl (by show 3<5;omega) λw2 T2 j f _ _=>?_;try simp only[ae,ac,fa_220_2]
  refine aC (A':=enA h.eb id {x with epoch:=fP (di m 2),at':=1}) j.rel f aE ⟨rfl,rfl⟩ rfl (by show 2<5;omega) λS K L D _ _=>?_;have k:=j.trans L;rw[B];refine⟨by first|rfl|trivial,K,SM.then e (one b k) (λ_ h=>h),C.cL k b l,?_⟩;rw[EnR,D,F];rfl
 ·have B:my c id m x=(m.set (fS c id) (pinW x.epoch),{x with done:=true}):=by rw[my,bY z]
  have O:((x.at':Int)==0)=false:=cN dy;simp only[ptr,ae,ac,zS,fa_220_2,fa_220_3,rU,aB,ag,s,r,G,O];refine(c_PutPin x.epoch).mono ?_;rintro _ w0 ⟨U,rfl,E⟩;rw[E];have P:IntKind.i64.wrap ((fS c 0:Int)+(id:Int))=((fS c id:Nat):Int):=by rw[ap (by unfold fS;omega) (by unfold fS;omega)];unfold fS;omega
  simp only[jk,jm,ptr,ae,ac,zS,fa_220_0,fa_220_1,pG,fa_158_2,ag,qz,bD,f0,f1,i,y,aj,P];refine(pa (a:=fS c id) (R.aw n) H (M.pin p) _).mono ?_;rintro _ w1 ⟨_,T1,d,C⟩;have b:=d.off xb _ hT (H.tD hT l);have e:Gx (SM h T o enT) w T w1 T1:=(Gx.bV R n).trans (SM.mem d);try simp only[ae,ac,rU]
  refine aC (A':=enA h.eb id {x with done:=true}) d.rel b mQ ⟨rfl,rfl⟩ rfl (by show 4<5;omega) λw2 T2 j f _ _=>?_;rw[B];exact⟨by first|rfl|trivial,T2,SM.then e (one b j) (λ_ h=>h),C.cL j b l,f⟩
def lvA(a id:Nat)(d:Bool):Array Value:= #[ptr a,bS id,.bool d]
def lvN(o a id:Nat)(d:Bool):Nod:= .st o 224 ((lvA a id d).toList.map fQ.v)
def LvR(T:dN)(o xb:Nat)(h:Hm)(id:Nat)(d:Bool):Prop:=T xb=some (lvN o h.eb id d)
def lvT:List TypeId:= [224]
theorem c_LvStep(N:gM c)(R:Rel w T)(H:dM T h c m)(l:o≠0)(M:eu c m)(A:LvR T o xb h id false)(d:id<cW c):
  aa prog 148 [ptr xb] w λv w'=>v= .bool true/\∃T',Gx (SM h T o lvT) w T w' T'/\dM T' h c (m.set (fS c id) 0)/\LvR T' o xb h id true:=by
 apply F148_ok;have hT:T xb=some (lvN o h.eb id false):=A;have one:∀{w w':World} {T T':dN},T xb=some (lvN o h.eb id false)->Gx (λq=>q=xb) w T w' T'->Gx (SM h T o lvT) w T w' T':=λhT g=>SO.toM (SO.one (es:= [224]) hT dz g) dz;have hb:hp w xb=some (.cells (lvA h.eb id false) 224):=R.kW hT;have f0:ao (hp w xb) (0+0)=some (ptr h.eb):=by rw[hb];rfl
 have f1:ao (hp w xb) (0+1)=some (bS id):=by rw[hb];rfl
 have r:ao (hp w xb) (0+2)=some (.bool false):=by rw[hb];rfl
 have y:=N.b1;obtain⟨e,s,f,t⟩:=ep_f R H;have n:=(ad.refl [] w).drew;have u:IntKind.i64.wrap ((fS c 0:Int)+(id:Int))=((fS c id:Nat):Int):=by rw[ap (by unfold fS;omega) (by unfold fS;omega)];unfold fS;omega
 rw[F148];simp only[ptr,ae,ac,zS,fa_224_0,fa_224_1,fa_224_2,pG,fa_158_2,aB,ag,qz,bD,f0,f1,r,e,f,aj,u];refine(pa (a:=fS c id) (R.aw n) H (M.pin d) _).mono ?_;rintro _ w1 ⟨_,T1,i,x⟩;have b:=i.off xb _ hT (H.tD hT l);have j:Gx (SM h T o lvT) w T w1 T1:=(Gx.bV R n).trans (SM.mem i);try simp only[ae,ac,fa_224_2]
 refine aC (A':=lvA h.eb id true) i.rel b mQ ⟨rfl,rfl⟩ rfl (by show 2<3;omega) λw2 T2 p k _ _=>?_;exact⟨by first|rfl|trivial,T2,SM.then j (one b p) (λ_ h=>h),x.cL p b l,k⟩
def oH(r:jo):Array Value:= #[bS r.1,bS r.2.1.1,bS r.2.1.2.1,bS r.2.1.2.2.1,bS r.2.1.2.2.2.1,bS r.2.1.2.2.2.2,bS r.2.2.1,bT r.2.2.2]
theorem ld_rs{e:TypeId}{r:jo}(hb:hp w q=some (.cells (oH r) e)):fR prog 35 (bU q) w=some (.agg (oH r)):=aR (t:=35) (c:=oH r) ag_35 (show(Tryz.prog.info? 35).map (·.size)=some (oH r).size from sz_35) hb
theorem st_rs{e:TypeId}{r r0:jo}{L:World->Prop}(hb:hp w q=some (.cells (oH r0) e)):dE prog (Instr.storeAt 35 (bU q) (.agg (oH r))) w L=L (put w q (oH r) e):=by
 rw[st_35 rfl rfl (by rw[hb,aT];exact cj (by show 8<=8;omega)) (by rw[hb];rfl),hb];rfl
theorem c_Touch(N:gM c)(R:Rel w T)(H:dM T h c m)(M:eu c m){kc i:Nat}(K:kc<cC c)(L:i<cK c)(kind v e:Int):
  aa prog 153 [ptr h.wb,bS kind,bS kc,bS i,bT v,bT e] w λu w'=>u= .agg (oH (iy m (aWd c kc i) kind v e).2)/\∃T',Gx (λk=>k=h.mb) w T w' T'/\dM T' h c (iy m (aWd c kc i) kind v e).1:=by
 apply F153_ok;rw[F153];dsimp only;rw[sn];generalize C:World.alloc _ _=w1;have O:ad [] w w1:=by rw[<- C];exact(ad.refl _ _).alloc _
 have P:hp w1 w.heap.size=some (.cells (oH lV) 35):=by rw[<- C,af,bX rfl];rfl
 have Q:T w.heap.size=none:=R.fresh (cy _);clear C;obtain⟨q,V⟩:∃q,q=w.heap.size:=⟨_,rfl⟩
 rw[<- V]at P Q⊢;have D:w.heap.size<=q:=dy;have S:=R.aw O;simp only[ptr,ae,ac,zS,bR,m8 S H];refine(c_Word N K L).mono ?_;rintro _ w2 ⟨rfl,E⟩;have o:=S.aw E;have W:=E.at P (by simp);have F:=O.trans E;obtain⟨y,_⟩:=m9 o H;have z:=M.wd K L;generalize aWd c kc i=a at*;have fin:∀(g:World) (f:dN) (r:jo),Gx (λk=>k=h.mb) w2 T g f->dM f h c (iy m a kind v e).1->(iy m a kind v e).2=r->
   dE prog (Instr.storeAt 35 (bU q) (.agg (oH r))) g λU=>nP (fR prog 35 (bU q) U) λG=>G= .agg (oH (iy m a kind v e).2)/\∃T',Gx (λk=>k=h.mb) w T U T'/\dM T' h c (iy m a kind v e).1:=by
  rintro g f r j H3 rfl;have I:=j.loc W Q;rw[st_rs I.1,ld_rs (aq (oG I.1) _ _),ac];exact⟨rfl,f,Gx.putL ((Gx.bV R F).trans j) D I.2,H3⟩
 by_cases n:kind=6
 ·have b:iy m a kind v e=(m,(0,kY,0,di m a)):=by rw[iy,bX n]
  have p:(kind==6)=true:=by rw[n];rfl
  simp only[ptr,ac,zS,p,fq,bD,y];refine(je o H z).mono ?_;rintro _ g ⟨rfl,_,f,j,H3⟩;have d:ai prog (Instr.build 35 #[(3,bT (di m a))])=some (.agg (oH (0,kY,0,di m a))):=bd_35_3;simp only[d,ac];exact fin g f _ j (by rw[b];exact H3) (by rw[b])
 ·have l:(kind==6)=false:=cN n;by_cases s:kind=7
  ·have b:iy m a kind v e=(m.set a v,lV):=by rw[iy,bY n,bX s]
   have p:(kind==7)=true:=by rw[s];rfl
   simp only[ptr,ac,zS,l,p,fq,bD,y];refine(pa o H z v).mono ?_;rintro _ g ⟨_,f,j,H3⟩;have d:ai prog (Instr.build 35 #[])=some (.agg (oH lV)):=bd_35_;simp only[d,ac];exact fin g f _ j (by rw[b];exact H3) (by rw[b])
  ·have t:(kind==7)=false:=cN s;by_cases A:kind=8
   ·have b:iy m a kind v e=(m.set a (IntKind.u64.wrap (di m a+v)),(0,kY,0,di m a)):=by rw[iy,bY n,bY s,bX A]
    have p:(kind==8)=true:=by rw[A];rfl
    simp only[ptr,ac,zS,l,t,p,fq,bD,y];refine(c_Add o H z v).mono ?_;rintro _ g ⟨rfl,_,f,j,H3⟩;have d:ai prog (Instr.build 35 #[(3,bT (di m a))])=some (.agg (oH (0,kY,0,di m a))):=bd_35_3;simp only[d,ac];exact fin g f _ j (by rw[b];exact H3) (by rw[b])
   ·have b:iy m a kind v e=(if di m a=v then(m.set a e,(0,kY,1,0))else(m,lV)):=by rw[iy,bY n,bY s,bY A]
    have J:(kind==8)=false:=cN A;simp only[ptr,ac,zS,l,t,J,fq,bD,y];refine(c_Cas o H z v e).mono ?_;rintro _ g ⟨rfl,_,f,j,H3⟩;have d:ai prog (Instr.build 35 #[])=some (.agg (oH lV)):=bd_35_;have x:ai prog (Instr.build 35 #[(2,bS 1)])=some (.agg (oH (0,kY,1,0))):=bd_35_2;by_cases B:di m a=v
    ·rw[bX B]at b H3;simp only[zS,B,x];exact fin g f _ j (by rw[b];exact H3) (by rw[b])
    ·rw[bY B]at b H3;simp only[zS,B,d];exact fin g f _ j (by rw[b];exact H3) (by rw[b])
end
section
variable{w w0 w1 w2 w':World}{T T1 T2 T':dN}{h:Hm}{c:cP}{m m':bI}{o o' b sb lb q kb wb:Nat}{es es':List TypeId}{k:jR}{id:Nat}{hv:Value}{p1 p2 p3 p4 p5 p6 p7:Option Addr}
def keyC(x:iD):List Value:= [bS x.1,bS x.2]
def lS(l:List iD):List Value:=l.flatMap keyC
def SlK(w:World)(T:dN)(v:Value)(l:List iD):Prop:=∃A n,v= .slice A l.length n/\l.length<=n/\Lo w T A (lS l)
def mW(wb id b:Nat)(k:jR)(hv:Value)(p1 p2 p3 p4 p5 p6 p7:Option Addr):Array Value:= #[ptr wb,bS id,ptr b,bS k.depth,hv,.bool k.busy,
 bS k.o.1,bS k.o.2.1,bS k.o.2.2.1,bS k.o.2.2.2.1,bT k.o.2.2.2.2.1,bT k.o.2.2.2.2.2,
 bS k.h.1,bS k.h.2.1,bS k.h.2.2.1,bS k.h.2.2.2.1,bS k.h.2.2.2.2,bS k.steps,bS k.point,bS k.back,
 bS k.last.1,bS k.last.2.1.1,bS k.last.2.1.2.1,bS k.last.2.1.2.2.1,bS k.last.2.1.2.2.2.1,bS k.last.2.1.2.2.2.2,bS k.last.2.2.1,bT k.last.2.2.2,
 .pointer p1,.pointer p2,.pointer p3,.pointer p4,.pointer p5,.pointer p6,.pointer p7]
def uu(o wb id b:Nat)(k:jR)(hv:Value)(p1 p2 p3 p4 p5 p6 p7:Option Addr):Nod:= .st o 172 ((mW wb id b k hv p1 p2 p3 p4 p5 p6 p7).toList.map fQ.v)
theorem aM{b:Nat}:(mW wb id b k hv p1 p2 p3 p4 p5 p6 p7).size=35:=dA
theorem c_ends(R:Rel w T)(hT:T kb=some (uu o wb id b k hv p1 p2 p3 p4 p5 p6 p7))(r:jo):aa prog 137 [ptr kb,.agg (oH r)] w λv w'=>v= .tuple #[]/\∃T',Gx (λq=>q=kb) w T w' T'/\T' kb=some (uu o wb id b {k with busy:=false,last:=r} hv p1 p2 p3 p4 p5 p6 p7):=by
 apply F137_ok;have g:ad [] w (w.alloc (.cells (oH r) 35)):=(ad.refl _ _).alloc _;have l:hp (w.alloc (.cells (oH r) 35)) w.heap.size=some (.cells (oH r) 35):=by rw[af,bX rfl]
 simp only[F137,ak,au];have m:T w.heap.size=none:=R.fresh (cy _);obtain⟨q,p⟩:∃q,q=w.heap.size:=⟨_,rfl⟩
 rw[<- p]at l m⊢;generalize w.alloc (.cells (oH r) 35)=w1 at*;have f:=(ad.refl [] w1).drew;have n:=(R.aw g).aw f;have e:=f.at l (by simp);refine⟨?_,?_⟩
 ·simp only[ptr,ae,ac,bj,ld_rs (w:=w1.drew) e];refine aC (A':=mW wb id b {k with busy:=false} hv p1 p2 p3 p4 p5 p6 p7) n hT mQ ⟨rfl,rfl⟩ dA (by rw[aM];omega) λw2 T2 d a _ _=>?_;try simp only[ac,fa_172_10]
  refine nd_ws (A':=mW wb id b {k with busy:=false,last:=r} hv p1 p2 p3 p4 p5 p6 p7) d.rel a sz_35 ⟨rfl,rfl,dz⟩ dA (by rw[aM];omega) λs i j c _ _=>?_;exact⟨by first|rfl|trivial,i,(Gx.bV R (g.trans f)).trans (d.trans j),c⟩
 ·simp only[ptr,ae,ac,bj];refine aC (A':=mW wb id b {k with busy:=false} hv p1 p2 p3 p4 p5 p6 p7) n hT mQ ⟨rfl,rfl⟩ dA (by rw[aM];omega) λw2 T2 d a _ _=>?_;have t:=(d.loc e m).1;simp only[ac,fa_172_10,ld_rs t];refine nd_ws (A':=mW wb id b {k with busy:=false,last:=r} hv p1 p2 p3 p4 p5 p6 p7) d.rel a sz_35 ⟨rfl,rfl,dz⟩ dA (by rw[aM];omega) λs i j c _ _=>?_;exact⟨by first|rfl|trivial,i,(Gx.bV R (g.trans f)).trans (d.trans j),c⟩
end
section
variable{w w0 w1 w2 w':World}{T T1 T2 T':dN}{h:Hm}{c:cP}{m m':bI}{o o' b sb lb q kb wb:Nat}{es es':List TypeId}{k:jR}{id:Nat}{hv:Value}{p1 p2 p3 p4 p5 p6 p7:Option Addr}
def uv(kb:Nat):Value:= .pointer (some ⟨kb,0+3,none⟩)
theorem wk_d(R:Rel w T)(hT:T kb=some (uu o wb id b k hv p1 p2 p3 p4 p5 p6 p7)):ao (hp w kb) (0+3+0)=some (bS k.depth)/\ao (hp w kb) (0+3+1)=some hv:=by
 have hb:hp w kb=some (.cells (mW wb id b k hv p1 p2 p3 p4 p5 p6 p7) 172):=R.kW hT;rw[hb];exact⟨rfl,rfl⟩
theorem c_gPin(R:Rel w T)(hT:T kb=some (uu o wb id b k hv p1 p2 p3 p4 p5 p6 p7))(g:0<=k.depth/\k.depth<=15):aa prog 140 [uv kb] w λv w'=>∃u,v= .tuple #[.bool u,bS (kt k).1]/\∃T',Gx (λq=>q=kb) w T w' T'/\T' kb=some (uu o wb id b (kt k).2 hv p1 p2 p3 p4 p5 p6 p7):=by
 apply F140_ok;obtain⟨f0,f1⟩:=wk_d R hT;by_cases a:k.depth=15
 ·have q:(k.depth==15)=true:=by rw[a];rfl
  simp only[F140,uv,ae,ac,zS,gV,ag,f0,q];rw[kt,bX a];exact⟨_,rfl,T,Gx.refl R,hT⟩
 ·have q:(k.depth==15)=false:=cN a;have e:IntKind.i64.wrap (k.depth+1)=k.depth+1:=ap dy dy;simp only[F140,uv,ae,ac,zS,gV,ag,f0,q,aj,e];refine aC (A':=mW wb id b {k with depth:=k.depth+1} hv p1 p2 p3 p4 p5 p6 p7) R hT aE ⟨rfl,rfl⟩ dA (by rw[aM];omega) λw2 T2 d c _ _=>?_;have f:ao (hp w2 kb) (0+3+0)=some (bS (k.depth+1)):=(wk_d d.rel c).1;simp only[ac,zS,f];rw[kt,bY a];exact⟨_,rfl,T2,d,c⟩
theorem c_gUnpin(R:Rel w T)(hT:T kb=some (uu o wb id b k hv p1 p2 p3 p4 p5 p6 p7))(r:0<=k.depth/\k.depth<=15):aa prog 141 [uv kb] w λv w'=>∃u,v= .tuple #[.bool u,bS (dP k).1]/\∃T',Gx (λq=>q=kb) w T w' T'/\T' kb=some (uu o wb id b (dP k).2 (if k.depth=1 then .slice none 0 0 else hv) p1 p2 p3 p4 p5 p6 p7):=by
 apply F141_ok;obtain⟨f0,f1⟩:=wk_d R hT;by_cases c:k.depth=0
 ·have q:(k.depth==0)=true:=by rw[c];rfl
  simp only[F141,uv,ae,ac,zS,gV,ag,f0,q];rw[dP,bX c,bY dy];exact⟨_,rfl,T,Gx.refl R,hT⟩
 ·have q:(k.depth==0)=false:=cN c;have l:IntKind.i64.wrap (k.depth-1)=k.depth-1:=ap dy dy;simp only[F141,uv,ae,ac,zS,gV,ag,f0,q,aZ,l];refine aC (A':=mW wb id b {k with depth:=k.depth-1} hv p1 p2 p3 p4 p5 p6 p7) R hT aE ⟨rfl,rfl⟩ dA (by rw[aM];omega) λw2 T2 e a _ _=>?_;have f:ao (hp w2 kb) (0+3+0)=some (bS (k.depth-1)):=(wk_d e.rel a).1;by_cases g:k.depth=1
  ·have i:(k.depth-1==0)=true:=by rw[g];rfl
   simp only[ac,zS,jY,f,i];refine aC (A':=mW wb id b {k with depth:=k.depth-1,holds:= []} (.slice none 0 0) p1 p2 p3 p4 p5 p6 p7) e.rel a sz_161 ⟨rfl,rfl⟩ dA (by rw[aM];omega) λm n j d _ _=>?_;apply L141_0_ok;have p:ao (hp m kb) (0+3+0)=some (bS (k.depth-1)):=(wk_d j.rel d).1;simp only[L141_0,ae,ac,zS,gV,ag,p];rw[dP,bY c,bX dy,bX g];exact⟨_,rfl,n,e.trans j,d⟩
  ·have i:(k.depth-1==0)=false:=cN dy;simp only[ac,zS,f,i];apply L141_0_ok;simp only[L141_0,ae,ac,zS,gV,ag,f];rw[dP,bY c,bY dy,bY g];exact⟨_,rfl,T2,e,a⟩
theorem keyC_len:∀x,(keyC x).length=2:=λ_=>rfl
theorem key_at{A:Option Addr}{l:List iD}{n i:Nat}(L:ed w A (lS l))(g:i<l.length):∃q f,ai prog (Instr.indexAt 161 (.slice A l.length n) (bS i))=some (.pointer (some ⟨q,f,none⟩))/\ao (hp w q) (f+0)=some (bS l[i].1)/\ao (hp w q) (f+1)=some (bS l[i].2):=by
 obtain⟨q,f,k,a,p,_⟩:=L.elem (P:=prog) (c:=n) (n:=l.length) (i:=(i:Int)) (j:= .i64) Tryz.underlying161 sz_256 dy (by rw[lS,bN keyC_len];exact cy _) dy dy;have e:((lS l).drop (i*2)).take 2=keyC l[i]:=lg keyC_len l i g;have m:(lS l)[i*2+0]? =some (bS l[i].1):=by
  have:(((lS l).drop (i*2)).take 2)[0]? =some (bS l[i].1):=by rw[e];rfl
  rw[List.getElem?_take_of_lt dy,List.getElem?_drop]at this;exact this
 have o:(lS l)[i*2+1]? =some (bS l[i].2):=by
  have:(((lS l).drop (i*2)).take 2)[1]? =some (bS l[i].2):=by rw[e];rfl
  rw[List.getElem?_take_of_lt dy,List.getElem?_drop]at this;exact this
 have b:=a 0 dy;have d:=a 1 dy;rw[cq]at b d;exact⟨q,f,k,b.trans m,d.trans o⟩
theorem l_holds{l:List iD}{A:Option Addr}{n:Nat}(L:ed w A (lS l))(y:l.length<=100)(f1:ao (hp w kb) (0+3+1)=some (.slice A l.length n))(slot gen:Int):∀(d i:Nat),i+d=l.length->
  P142_0 (uv kb) (bS slot) (bS gen) (bS i) w λv w'=>v= .bool (decide ((slot,gen)∈l.drop i))/\w'=w
 |0,i,h=>by
  apply L142_0_ok;have b:¬((i:Int)<(l.length:Int)):=dy;simp only[L142_0,uv,ae,ac,zS,jY,kJ,f1,jL,b];rw[List.drop_eq_nil_of_le dy];exact⟨by first|rfl|simp,by first|rfl|trivial⟩
 |d+1,i,h=>by
  apply L142_0_ok;have s:i<l.length:=dy;have b:(i:Int)<(l.length:Int):=dy;obtain⟨q,f,k,m,k1⟩:=key_at (n:=n) L s;have t:=l_holds L y f1 slot gen d (i+1) dy;have u:IntKind.i64.wrap ((i:Int)+1)=((i+1:Nat):Int):=by rw[ap dy dy];omega
  rw[List.drop_eq_getElem_cons s];have c:∀x:iD,(slot,gen)∈x::l.drop (i+1)<->((x.1=slot/\x.2=gen)\/(slot,gen)∈l.drop (i+1)):=λx=>by
   rw[dg];constructor
   ·rintro(h|h)
    ·left;rw[<- h];exact⟨rfl,rfl⟩
    ·exact .inr h
   ·rintro(h|h)
    ·left;rw[<- h.1,<-h.2]
    ·exact .inr h
  by_cases e:l[i].1=slot
  ·have g:(l[i].1==slot)=true:=by rw[e];exact beq_self_eq_true _
   by_cases j:l[i].2=gen
   ·have o:(l[i].2==gen)=true:=by rw[j];exact beq_self_eq_true _
    simp only[L142_0,uv,ae,ac,zS,jY,fa_256_0,fa_256_1,kJ,ag,f1,jL,b,k,m,k1,g,o];rw[cj ((c _).2 (.inl ⟨e,j⟩))];exact⟨by first|rfl|trivial,by first|rfl|trivial⟩
   ·have o:(l[i].2==gen)=false:=cN j;simp only[L142_0,uv,ae,ac,zS,jY,fa_256_0,fa_256_1,kJ,ag,f1,jL,b,k,m,k1,g,o,aj,u];refine Part.mono t λv w' ⟨p,r⟩=>⟨?_,r⟩
    rw[p];congr 1;exact decide_eq_decide.2 ⟨λa=>(c _).2 (.inr a),λa=>((c _).1 a).resolve_left λa=>j a.2⟩
  ·have g:(l[i].1==slot)=false:=cN e;simp only[L142_0,uv,ae,ac,zS,jY,fa_256_0,kJ,ag,f1,jL,b,k,m,g,aj,u];refine Part.mono t λv w' ⟨p,r⟩=>⟨?_,r⟩
   rw[p];congr 1;exact decide_eq_decide.2 ⟨λa=>(c _).2 (.inr a),λa=>((c _).1 a).resolve_left λa=>e a.1⟩
theorem c_gHolds(R:Rel w T)(hT:T kb=some (uu o wb id b k hv p1 p2 p3 p4 p5 p6 p7))(K:SlK w T hv k.holds)(a:k.holds.length<=100)(slot gen:Int):aa prog 142 [uv kb,bS slot,bS gen] w λv w'=>v= .bool (pw k slot gen)/\w'=w:=by
 apply F142_ok;obtain⟨A,n,rfl,_,L⟩:=K;have:=l_holds (kb:=kb) L.rd a (wk_d R hT).2 slot gen k.holds.length 0 dy;rw[List.drop_zero]at this;exact this
end
section
variable{w w0 w1 w2 w':World}{T T1 T2 T':dN}{h:Hm}{c:cP}{m m':bI}{k:jR}
theorem c_in(a b c:Int):aa prog 211 [bS a,bS b,bS c] w λv w'=>v= .bool (decide (b<=a/\a<=c))/\w'=w:=by
 apply F211_ok;by_cases d:b<=a
 ·simp only[F211,zS,d];exact⟨by first|rfl|simp,by first|rfl|trivial⟩
 ·simp only[F211,zS,d];exact⟨by first|rfl|simp,by first|rfl|trivial⟩
def rq(x:eF):Array Value:= #[bS x.1,bS x.2.1,bS x.2.2.1,bS x.2.2.2.1,bS x.2.2.2.2]
theorem c_Region(N:gM c)(x:eF):aa prog 172 [.agg (dK c).toArray,.agg (rq x)] w λv w'=>v= .bool (iQ c x)/\ad [] w w':=by
 apply F172_ok;simp only[F172,ak,au];generalize a:w.alloc (.cells (dK c).toArray 25)=w1;have s:ad [] w w1:=by rw[<- a];exact(ad.refl _ _).alloc _
 have t:hp w1 w.heap.size=some (.cells (dK c).toArray 25):=by rw[<- a,af,bX rfl]
 have C:w1.heap.size=w.heap.size+1:=by rw[<- a];exact ah _ _
 clear a;generalize e:w1.alloc (.cells (rq x) 32)=w2;have n:ad [] w1 w2:=by rw[<- e];exact(ad.refl _ _).alloc _
 have g:hp w2 w1.heap.size=some (.cells (rq x) 32):=by rw[<- e,af,bX rfl]
 have l:=n.at t (by simp);clear e;have u:ao (hp w2 w.heap.size) (0+3)=some (bS c.2.2.2.1):=by rw[l];rfl
 have y:ao (hp w2 w1.heap.size) (0+0)=some (bS x.1):=by rw[g];rfl
 have z:ao (hp w2 w1.heap.size) (0+1)=some (bS x.2.1):=by rw[g];rfl
 have m:ao (hp w2 w1.heap.size) (0+2)=some (bS x.2.2.1):=by rw[g];rfl
 have o:ao (hp w2 w1.heap.size) (0+3)=some (bS x.2.2.2.1):=by rw[g];rfl
 have A:ao (hp w2 w1.heap.size) (0+4)=some (bS x.2.2.2.2):=by rw[g];rfl
 have D:=N.n4;have E:=N.b4;have B:IntKind.i64.wrap (c.2.2.2.1-1)=c.2.2.2.1-1:=ap dy dy;simp only[ac,bG,iJ,ag,u,y,aZ,B];refine(c_in _ _ _).step ?_;have i:=s.trans n;by_cases p:0<=x.1/\x.1<=c.2.2.2.1-1
 ·have d:decide (0<=x.1/\x.1<=c.2.2.2.1-1)=true:=cj p;simp only[d,zS,gR,ag,z];refine(c_in _ _ _).step ?_;by_cases q:1<=x.2.1/\x.2.1<=4294967295
  ·have b:decide (1<=x.2.1/\x.2.1<=4294967295)=true:=cj q;by_cases f:x.2.2.1=0
   ·have k:(x.2.2.1==0)=true:=by rw[f];rfl
    by_cases j:x.2.2.2.1=0
    ·have q4:(x.2.2.2.1==0)=true:=by rw[j];rfl
     simp only[b,zS,fy,ib,iK,ag,m,o,A,k,q4];refine⟨?_,i⟩;rw[iQ,d,b];by_cases r:x.2.2.2.2=0
     ·simp[f,j,r]
     ·simp[f,j,r]
    ·have q4:(x.2.2.2.1==0)=false:=cN j;simp only[b,zS,fy,ib,ag,m,o,k,q4];exact⟨by rw[iQ,d,b];simp[f,j],i⟩
   ·have k:(x.2.2.1==0)=false:=cN f;simp only[b,zS,fy,ag,m,k];exact⟨by rw[iQ,d,b];simp[f],i⟩
  ·have b:decide (1<=x.2.1/\x.2.1<=4294967295)=false:=cr q;simp only[b,zS];exact⟨by rw[iQ,d,b];rfl,i⟩
 ·have d:decide (0<=x.1/\x.1<=c.2.2.2.1-1)=false:=cr p;simp only[d,zS];exact⟨by rw[iQ,d];rfl,i⟩
theorem c_Object(N:gM c)(x:eF):aa prog 173 [.agg (dK c).toArray,.agg (rq x)] w λv w'=>v= .bool (kD c x)/\ad [] w w':=by
 apply F173_ok;simp only[F173,ak,au];generalize b:w.alloc (.cells (dK c).toArray 25)=w1;have u:ad [] w w1:=by rw[<- b];exact(ad.refl _ _).alloc _
 have y:hp w1 w.heap.size=some (.cells (dK c).toArray 25):=by rw[<- b,af,bX rfl]
 clear b;generalize d:w1.alloc (.cells (rq x) 32)=w2;have n:ad [] w1 w2:=by rw[<- d];exact(ad.refl _ _).alloc _
 have i:hp w2 w1.heap.size=some (.cells (rq x) 32):=by rw[<- d,af,bX rfl]
 have e:=n.at y (by simp);clear d;have f1:ao (hp w2 w.heap.size) (0+1)=some (bS c.2.1):=by rw[e];rfl
 have o:ao (hp w2 w.heap.size) (0+2)=some (bS c.2.2.1):=by rw[e];rfl
 have z:ao (hp w2 w.heap.size) (0+3)=some (bS c.2.2.2.1):=by rw[e];rfl
 have A:ao (hp w2 w1.heap.size) (0+0)=some (bS x.1):=by rw[i];rfl
 have B:ao (hp w2 w1.heap.size) (0+1)=some (bS x.2.1):=by rw[i];rfl
 have C:ao (hp w2 w1.heap.size) (0+2)=some (bS x.2.2.1):=by rw[i];rfl
 have D:ao (hp w2 w1.heap.size) (0+3)=some (bS x.2.2.2.1):=by rw[i];rfl
 have p:ao (hp w2 w1.heap.size) (0+4)=some (bS x.2.2.2.2):=by rw[i];rfl
 have H:=N.n4;have I:=N.b4;have J:=N.n2;have K:=N.n3;have E:=N.b2;have F:=N.b3;have G:IntKind.i64.wrap (c.2.2.2.1-1)=c.2.2.2.1-1:=ap dy dy;have l:IntKind.i64.wrap (c.2.1-1)=c.2.1-1:=ap dy dy;simp only[ac,bG,iJ,ag,z,A,aZ,G];refine(c_in _ _ _).step ?_;have j:=u.trans n;by_cases q:0<=x.1/\x.1<=c.2.2.2.1-1
 ·have a:decide (0<=x.1/\x.1<=c.2.2.2.1-1)=true:=cj q;simp only[a,zS,gR,ag,B];refine(c_in _ _ _).step ?_;by_cases r:1<=x.2.1/\x.2.1<=4294967295
  ·have f:decide (1<=x.2.1/\x.2.1<=4294967295)=true:=cj r;simp only[f,zS,fy,jK,ag,C,f1,aZ,l];refine(c_in _ _ _).step ?_;by_cases s:0<=x.2.2.1/\x.2.2.1<=c.2.1-1
   ·have g:decide (0<=x.2.2.1/\x.2.2.1<=c.2.1-1)=true:=cj s;simp only[g,zS,iK,fj,ag,p,o];refine(c_in _ _ _).step ?_;by_cases t:1<=x.2.2.2.2/\x.2.2.2.2<=c.2.2.1
    ·have k:decide (1<=x.2.2.2.2/\x.2.2.2.2<=c.2.2.1)=true:=cj t;have m:IntKind.i64.wrap (c.2.2.1-x.2.2.2.2)=c.2.2.1-x.2.2.2.2:=ap dy dy;simp only[k,zS,ib,ag,D,p,o,aZ,m];refine(c_in _ _ _).step ?_;try simp only[zS]
     exact⟨by rw[kD,a,f,g,k];rfl,j⟩
    ·have k:decide (1<=x.2.2.2.2/\x.2.2.2.2<=c.2.2.1)=false:=cr t;simp only[k,zS];exact⟨by rw[kD,a,f,g,k];rfl,j⟩
   ·have g:decide (0<=x.2.2.1/\x.2.2.1<=c.2.1-1)=false:=cr s;simp only[g,zS];exact⟨by rw[kD,a,f,g];rfl,j⟩
  ·have f:decide (1<=x.2.1/\x.2.1<=4294967295)=false:=cr r;simp only[f,zS];exact⟨by rw[kD,a,f];rfl,j⟩
 ·have a:decide (0<=x.1/\x.1<=c.2.2.2.1-1)=false:=cr q;simp only[a,zS];exact⟨by rw[kD,a];rfl,j⟩
end
section
variable{w w0 w1 w2 w':World}{T T1 T2 T':dN}{h:Hm}{c:cP}{m m':bI}{o o' b sb lb q kb wb:Nat}{es es':List TypeId}{k:jR}{id:Nat}{hv:Value}{p1 p2 p3 p4 p5 p6 p7:Option Addr}
theorem sP{e:TypeId}{x:eF}(hb:hp w q=some (.cells (rq x) e)):fR prog 32 (bU q) w=some (.agg (rq x)):=aR (t:=32) (c:=rq x) qX (show(Tryz.prog.info? 32).map (·.size)=some (rq x).size from ma) hb
theorem c_fits(N:gM c)(R:Rel w T)(H:dM T h c m)(hT:T kb=some (uu o h.wb id b k hv p1 p2 p3 p4 p5 p6 p7))(op:ez)(x:eF):aa prog 136 [ptr kb,.agg (dC op).toArray,.agg (rq x)] w λv w'=>v= .bool (jS c op x)/\ad [] w w':=by
 apply F136_ok;simp only[F136,ak,au];generalize d:w.alloc (.cells (dC op).toArray 37)=w1;have E:ad [] w w1:=by rw[<- d];exact(ad.refl _ _).alloc _
 have F:hp w1 w.heap.size=some (.cells (dC op).toArray 37):=by rw[<- d,af,bX rfl]
 clear d;generalize e:w1.alloc (.cells (rq x) 32)=w2;have B:ad [] w1 w2:=by rw[<- e];exact(ad.refl _ _).alloc _
 have C:hp w2 w1.heap.size=some (.cells (rq x) 32):=by rw[<- e,af,bX rfl]
 have s:=B.at F (by simp);clear e;have f:=E.trans B;have t:=R.aw f;have G:ao (hp w2 w.heap.size) (0+0)=some (bS op.1):=by rw[s];rfl
 have f0:ao (hp w2 kb) (0+0)=some (ptr h.wb):=by rw[t.kW hT];rfl
 have q:=(ad.refl [] w2).drew;simp only[ac,am,ag,G];refine(c_Of op.1 _).step ?_;generalize g:gH op.1=n;have u:=m8 (w:=w2.drew) (t.aw q) H;have y:=sP (w:=w2.drew) C;by_cases k1:n=1
 ·have i:(n==1)=true:=by rw[k1];rfl
  simp only[ptr,ae,ac,zS,i,ie,bR,gp,f0,u,y];refine(c_Region N x).mono ?_;rintro _ j ⟨rfl,l⟩;exact⟨by rw[jS,g,bX k1],(f.trans q).trans l⟩
 ·have i:(n==1)=false:=cN k1;by_cases k2:n=2
  ·have r:(n==2)=true:=by rw[k2];rfl
   simp only[ptr,ae,ac,zS,i,r,ie,bR,gp,f0,u,y];refine(c_Object N x).mono ?_;rintro _ j ⟨rfl,l⟩;exact⟨by rw[jS,g,bY k1,bX k2],(f.trans q).trans l⟩
  ·have r:(n==2)=false:=cN k2;by_cases p:n=3
   ·have z:(n==3)=true:=by rw[p];rfl
    simp only[ptr,ae,ac,zS,i,r,z,ie,bR,gp,f0,u,y];refine(c_Region N x).mono ?_;rintro _ j ⟨rfl,l⟩;have a:=q.trans l;cases D:iQ c x with
    |true=>
     simp only[zS];exact⟨by rw[jS,g,bY k1,bY k2,bX p,D];rfl,f.trans a⟩
    |false=>
     have A:ao (hp j kb) (0+0)=some (ptr h.wb):=lK a f0;simp only[ptr,ae,ac,zS,ie,bR,gp,A,m8 (w:=j) (t.aw a) H,sP (w:=j) (a.at C (by simp))];refine(c_Object N x).mono ?_;rintro _ J ⟨rfl,I⟩;try simp only[zS]
     exact⟨by rw[jS,g,bY k1,bY k2,bX p,D];rfl,(f.trans a).trans I⟩
   ·have z:(n==3)=false:=cN p;simp only[zS,i,r,z];exact⟨by rw[jS,g,bY k1,bY k2,bY p],f⟩
theorem keys_one(l:List iD):∀u∈lS l,u.oneCell'=true:=λu a=>by
 obtain⟨y,_,hy⟩:=List.mem_flatMap.1 a;rcases dg.1 hy with rfl|hy
 ·rfl
 ·rw[dh.1 hy];rfl
theorem c_gHold(R:Rel w T)(hT:T kb=some (uu o wb id b k hv p1 p2 p3 p4 p5 p6 p7))(K:SlK w T hv k.holds)(J:k.holds.length<=100)(slot gen:Int):aa prog 150 [uv kb,bS slot,bS gen] w λv w'=>(∃ n,v=bS n)/\∃T' a,Gx (λq=>q=kb) w T w' T'/\SlK w' T' a (kV k slot gen).holds/\T' kb=some (uu o wb id b (kV k slot gen) a p1 p2 p3 p4 p5 p6 p7):=by
 apply F150_ok;obtain⟨f0,f1⟩:=wk_d R hT;have M:=K;have ck:kV k slot gen=k->∃T' a,Gx (λq=>q=kb) w T w T'/\SlK w T' a (kV k slot gen).holds/\T' kb=some (uu o wb id b (kV k slot gen) a p1 p2 p3 p4 p5 p6 p7):=λe=>⟨T,hv,Gx.refl R,by rw[e];exact M,by rw[e];exact hT⟩
 by_cases c:k.depth=0
 ·have q:(k.depth==0)=true:=by rw[c];rfl
  simp only[F150,uv,ae,ac,zS,gV,ag,f0,q];exact⟨⟨_,rfl⟩,ck (by rw[kV,bX (.inl c)])⟩
 ·have q:(k.depth==0)=false:=cN c;simp only[F150,uv,ae,ac,zS,gV,ag,f0,q];refine(c_gHolds R hT K J slot gen).step ?_;cases C:pw k slot gen with
  |true=>
   simp only[zS];exact⟨⟨_,rfl⟩,ck (by rw[kV,bX (.inr (.inl C))])⟩
  |false=>
   obtain⟨A,n,rfl,hn,L⟩:=K;by_cases g:k.holds.length=8
   ·have l:((k.holds.length:Int)==8)=true:=by rw[g];rfl
    simp only[ac,zS,jY,kJ,f1,jL,l];exact⟨⟨_,rfl⟩,ck (by rw[kV,bX (.inr (.inr g))])⟩
   ·have l:((k.holds.length:Int)==8)=false:=cN dy;have r:ai prog (Instr.build 256 #[(0,bS slot),(1,bS gen)])=some (.agg #[bS slot,bS gen]):=ug;simp only[ac,zS,jY,kJ,f1,jL,l,r];have D:kV k slot gen={k with holds:=k.holds++ [(slot,gen)]}:=by rw[kV,bY (by rintro(h|h|h);exact c h;rw[C]at h;cases h;exact g h)]
    obtain⟨i,O,P,Q,hb⟩:=inf_256;have s:(lS k.holds).length=k.holds.length*2:=by rw[lS,bN keyC_len]
    refine iI (base:=w.heap.size) (xs:= []) (n:=0) (news:=lS k.holds) (m:=k.holds.length) Tryz.underlying161 O P Q rfl dy (World.ownsRow_nil _ _ _ _) s (λj u S=>L.rd j u S) (keys_one _) (by unfold maxLen;omega) (by rw[hb];omega) (cy _) λU w1 d V=>?_;have E:ad [] w w1:=(ad.refl _ _).grown V λk t=>by simp[Value.ownBlock]at t
    have d:w1.ownsRow w.heap.size 256 2 U k.holds.length (lS k.holds):=by simpa using d
    refine ps_161 (by simp) d dy E.size λv2 w2 f x W=>?_;have F:ad [] w w2:=E.grown x λk t=> .inr (m6 d t);have f:w2.ownsRow w.heap.size 256 2 v2 (k.holds++ [(slot,gen)]).length (lS (k.holds++ [(slot,gen)])):=by
     have e:lS (k.holds++ [(slot,gen)])=lS k.holds++ [bS slot,bS gen]:=by simp[lS,keyC]
     rw[e,cJ];exact f
    obtain⟨y,G,H,z⟩:=own_cap f;obtain⟨A',n',e',X,Y,_⟩:=aG f;rw[H]at e';cases e';subst H;have Z:Lo w2 T y (lS (k.holds++ [(slot,gen)])):=Lo.new R X λp hp=>(Y p hp).1;try simp only[ae,ac,jY]
    refine aC (A':=mW wb id b {k with holds:=k.holds++ [(slot,gen)]} (.slice y (k.holds++ [(slot,gen)]).length G) p1 p2 p3 p4 p5 p6 p7) (R.aw F) hT sz_161 ⟨rfl,rfl⟩ dA (by rw[aM];omega) λw3 T3 I B _ _=>?_;refine⟨⟨_,by first|rfl|trivial⟩,T3,_,(Gx.bV R F).trans I,?_,by rw[D];exact B⟩;rw[D];exact⟨y,G,rfl,z,Z.gx I⟩
end
section
variable{w w0 w1 w2 w':World}{T T1 T2 T':dN}{h:Hm}{c:cP}{m m':bI}{o o' b sb lb q kb wb:Nat}{es es':List TypeId}{k:jR}{id:Nat}{hv:Value}{p1 p2 p3 p4 p5 p6 p7:Option Addr}
def McR(w:World)(T:dN)(o b:Nat)(h:Hm)(id:Nat)(p1 p2 p3 p4 p5 p6 p7:Option Addr):McV->Prop
 | .none=>True
 | .create x=>∃q,p1=some ⟨q,0,none⟩/\CrR T o q h x
 | .alloc x=>∃q,p2=some ⟨q,0,none⟩/\AlR w T o q b h x
 | .enter x=>∃q,p3=some ⟨q,0,none⟩/\EnR T o q h id x
 | .leave d=>∃q,p4=some ⟨q,0,none⟩/\LvR T o q h id d
 | .look x=>∃q,p5=some ⟨q,0,none⟩/\LkR T o q h x
 | .free x=>∃q,p6=some ⟨q,0,none⟩/\FrR w T o q b h x
 | .collect x=>∃q,p7=some ⟨q,0,none⟩/\CoR w T o q b h x
def uw(w:World)(T:dN)(o kb:Nat)(h:Hm)(c:cP)(id:Nat)(k:jR):Prop:=∃b sb lb hv p1 p2 p3 p4 p5 p6 p7,T kb=some (uu o h.wb id b k hv p1 p2 p3 p4 p5 p6 p7)/\fX w T o b sb lb h c k.su/\SlK w T hv k.holds/\McR w T o b h id p1 p2 p3 p4 p5 p6 p7 k.mc
theorem SlK.gx{S:Nat->Prop}{v:Value}{l:List iD}(K:SlK w T v l)(g:Gx S w T w' T'):SlK w' T' v l:=by
 obtain⟨A,n,e,a,L⟩:=K;exact⟨A,n,e,a,L.gx g⟩
theorem SlK.aw{v:Value}{l:List iD}(K:SlK w T v l)(a:ad [] w w'):SlK w' T v l:=by
 obtain⟨A,n,e,b,L⟩:=K;exact⟨A,n,e,b,L.aw a⟩
def fV(h:Hm)(T:dN)(o:Nat)(q:Nat):Prop:=q=h.mb\/∃e cs,T q=some (.st o e cs)
theorem SM.wk(q:Nat)(a:SM h T o es q):fV h T o q:=a.imp id fun⟨e,cs,b,_⟩=>⟨e,cs,b⟩
theorem fV.then(g:Gx (fV h T o) w T w1 T1)(c:Gx (fV h T1 o) w1 T1 w2 T2):Gx (fV h T o) w T w2 T2:=g.then c λq d hT a=>by
 rcases a with a|⟨e,cs,a⟩
 ·exact .inl a
 ·refine .inr ?_;cases d with
  |own x j=>have:=g.own q x j hT;rw[this]at a;cases a
  |st f i b=>
   obtain⟨k,l⟩:=g.ty q f i b hT;rw[l]at a;cases a;exact⟨_,_,hT⟩
theorem GiR.sQ{S:Nat->Prop}{b:Nat}{x:GiV}(G:GiR w T o b h x)(g:Gx S w T w' T')(c:∀q e cs,T q=some (.st o e cs)->e≠172->¬S q):GiR w' T' o b h x:=
 G.gx g (by obtain⟨q,v,a,_⟩:=G;exact c _ _ _ a dz) λq cs a=>c _ _ _ a dz
theorem McR.sQ{S:Nat->Prop}{x:McV}(M:McR w T o b h id p1 p2 p3 p4 p5 p6 p7 x)(g:Gx S w T w' T')(c:∀q e cs,T q=some (.st o e cs)->e≠172->¬S q):McR w' T' o b h id p1 p2 p3 p4 p5 p6 p7 x:=by
 cases x with
 |none=>trivial
 |create x=>
  obtain⟨q,e,y,hT,m⟩:=M;exact⟨q,e,y,g.off q _ hT (c _ _ _ hT dz),λa d=>by obtain⟨l,f,j⟩:=m a d;exact⟨l,f,g.off l _ j (c _ _ _ j dz)⟩⟩
 |alloc x=>
  obtain⟨q,e,y,z,hT,m,r⟩:=M;exact⟨q,e,y,z,g.off q _ hT (c _ _ _ hT dz),λa d=>by obtain⟨tb,f,j⟩:=m a d;exact⟨tb,f,j.gx g λk e cs s t=>c _ _ _ s (by rcases t with rfl|rfl<;>decide)⟩,λa d=>by obtain⟨tb,f,j⟩:=r a d;exact⟨tb,f,j.sQ g c⟩⟩
 |enter x=>obtain⟨q,e,hT⟩:=M;exact⟨q,e,g.off q _ hT (c _ _ _ hT dz)⟩
 |leave d=>obtain⟨q,e,hT⟩:=M;exact⟨q,e,g.off q _ hT (c _ _ _ hT dz)⟩
 |look x=>obtain⟨q,e,hT⟩:=M;exact⟨q,e,g.off q _ hT (c _ _ _ hT dz)⟩
 |free x=>
  obtain⟨q,e,eb,y,z,v,hT,E,n,j,u⟩:=M;exact⟨q,e,eb,y,z,v,g.off q _ hT (c _ _ _ hT dz),g.off eb _ E (c _ _ _ E dz),λa d=>by obtain⟨kb,f,i⟩:=n a d;exact⟨kb,f,g.off kb _ i (c _ _ _ i dz)⟩,λa d=>by obtain⟨l,f,i⟩:=j a d;exact⟨l,f,i.gx g (by obtain⟨_,_,hp,_⟩:=i;exact c _ _ _ hp dz)⟩,λa d=>by obtain⟨p,f,i⟩:=u a d;exact⟨p,f,i.sQ g c⟩⟩
 |collect x=>
  obtain⟨q,e,ab,z,hT,A,n⟩:=M;exact⟨q,e,ab,z,g.off q _ hT (c _ _ _ hT dz),g.off ab _ A (c _ _ _ A dz),λa d=>by obtain⟨p,f,i⟩:=n a d;exact⟨p,f,i.sQ g c⟩⟩
theorem uw.sQ{S:Nat->Prop}(K:uw w T o kb h c id k)(g:Gx S w T w' T')(a:∀q e cs,T q=some (.st o e cs)->¬S q):uw w' T' o kb h c id k:=by
 obtain⟨b,sb,lb,hv,p1,p2,p3,p4,p5,p6,p7,hT,U,L,M⟩:=K;exact⟨b,sb,lb,hv,p1,p2,p3,p4,p5,p6,p7,g.off kb _ hT (a _ _ _ hT),U.gx g (a _ _ _ U.n) (by obtain⟨_,d,_⟩:=U.s;exact a _ _ _ d) (by obtain⟨_,d,_⟩:=U.l;exact a _ _ _ d),L.gx g,M.sQ g λq e cs h _=>a q e cs h⟩
theorem uw.other(K:uw w T o kb h c id k)(H:dM T h c m)(f:o≠0)(b:o≠o')(g:Gx (fV h T o') w T w' T'):uw w' T' o kb h c id k:=K.sQ g λq e cs d a=>by
 rcases a with a|⟨l,i,a⟩
 ·obtain⟨n,j⟩:=H.mT;rw[a,j]at d;cases d;exact f rfl
 ·rw[d]at a;cases a;exact b rfl
end
section
variable{w w0 w1 w2 w':World}{T T1 T2 T':dN}{h:Hm}{c:cP}{m m':bI}{o o' b sb lb q kb wb q4 q5:Nat}{es es':List TypeId}{k:jR}{id:Nat}{hv:Value}{p1 p2 p3 p4 p5 p6 p7:Option Addr}
theorem fY{e:TypeId}{cs:List fQ}(hT:T kb=some (.st o e cs))(g:Gx (λq=>q=kb) w T w' T'):Gx (fV h T o) w T w' T':=g.mono λq a=> .inr (by rw[a];exact⟨e,cs,hT⟩)
theorem wkNo(g:Gx (λ_=>False) w T w' T'):Gx (fV h T o) w T w' T':=g.mono λ_ h=>h.elim
theorem wkSM(g:Gx (SM h T o es) w T w' T'):Gx (fV h T o) w T w' T':=g.mono λq a=>SM.wk q a
theorem kN(n:Int):ai prog (Instr.build 35 #[(0,bS n)])=some (.agg (oH (bL n))):=bd_35_0
theorem nc(R:Rel w T)(H:dM T h c m)(f:o≠0)(U:fX w T o b sb lb h c k.su)(L:SlK w T hv k.holds)(hT:T kb=some (uu o h.wb id b k hv p1 p2 p3 p4 p5 p6 p7))(r:jo){K:Value->World->Prop}
  (g:∀w' T',Gx (fV h T o) w T w' T'->dM T' h c m->uw w' T' o kb h c id (cI k r)->K (.tuple #[]) w'):aa prog 137 [ptr kb,.agg (oH r)] w K:=by
 refine(c_ends R hT r).mono ?_;rintro _ w1 ⟨rfl,T1,a,d⟩;exact g w1 T1 (fY hT a) (H.cL a hT f) ⟨b,sb,lb,hv,p1,p2,p3,p4,p5,p6,p7,d,U.gx a (aA U.n hT dz) (by obtain⟨_,e,_⟩:=U.s;exact aA e hT dz) (by obtain⟨_,e,_⟩:=U.l;exact aA e hT dz),L.gx a,trivial⟩
theorem ux{mc':McV}(U:fX w T o b sb lb h c k.su)(L:SlK w T hv k.holds)(M:McR w T o b h id p1 p2 p3 p4 p5 p6 p7 mc'){m p r t u v x:Option Addr}{y:jR}(a:T kb=some (uu o h.wb id b y hv m p r t u v x))(g:Gx (λq=>q=kb) w T w' T')(d:T' kb=some (uu o h.wb id b {k with mc:=mc'} hv p1 p2 p3 p4 p5 p6 p7)):uw w' T' o kb h c id {k with mc:=mc'}:=by
 refine⟨b,sb,lb,hv,p1,p2,p3,p4,p5,p6,p7,d,?_,L.gx g,M.sQ g λq e cs j f z=>?_⟩
 ·exact U.gx g (aA U.n a dz) (by obtain⟨_,i,_⟩:=U.s;exact aA i a dz) (by obtain⟨_,i,_⟩:=U.l;exact aA i a dz)
 ·rw[z,a]at j;cases j;exact f rfl
theorem ld_opA{e:TypeId}{x:ez}(hb:hp w q=some (.cells (dC x).toArray e)):fR prog 37 (bU q) w=some (.agg (dC x).toArray):=aR (t:=37) (c:=(dC x).toArray) tJ (show(Tryz.prog.info? 37).map (·.size)=some (dC x).toArray.size from nZ) hb
def uC(T:dN)(w:World)(o kb:Nat)(h:Hm)(c:cP)(m:bI)(id:Nat)(a:jR)(v:Value)(w':World):Prop:=v= .bool true/\∃T',Gx (fV h T o) w T w' T'/\dM T' h c m/\uw w' T' o kb h c id a
theorem wk_tail{op:ez}{x:eF}(N:gM c)(R:Rel w T)(H:dM T h c m)(M:o≠0)(U:fX w T o b sb lb h c k.su)(L:SlK w T hv k.holds)(hT:T kb=some (uu o h.wb id b k hv p1 p2 p3 p4 p5 p6 p7))(b4:hp w q4=some (.cells (dC op).toArray 37))(b5:hp w q5=some (.cells (rq x) 32))(a7:0<=k.depth/\k.depth<=15)(b7:k.holds.length<=100):
  P101_0 (ptr kb) (ptr q4) (ptr q5) w (uC T w o kb h c m id (if jS c op x=false then cI k (bL 2)else jT c k op x)):=by
 apply L101_0_ok;simp only[L101_0,ptr,ac,ld_opA b4,sP b5];refine(c_fits N R H hT op x).mono ?_;rintro _ w1 ⟨rfl,D⟩;have E:=R.aw D;have a8:=D.at b4 (by simp);have a1:=D.at b5 (by simp);have j:=U.aw D;have z:=L.aw D;cases hf:jS c op x with
 |false=>
  simp only[zS,kN,reduceIte];refine nc (k:=k) E H M j z hT (bL 2) λw2 T2 d H2 K2=>?_;exact⟨by first|rfl|trivial,T2,(Gx.bV R D).trans d,H2,K2⟩
 |true=>
  have F:ao (hp w1 q4) (0+0)=some (bS op.1):=by rw[a8];rfl
  have l3:ao (hp w1 q4) (0+3)=some (bS op.2.2.2.1):=by rw[a8];rfl
  have n0:ao (hp w1 q5) (0+0)=some (bS x.1):=by rw[a1];rfl
  have n1:ao (hp w1 q5) (0+1)=some (bS x.2.1):=by rw[a1];rfl
  have n4:ao (hp w1 q5) (0+4)=some (bS x.2.2.2.2):=by rw[a1];rfl
  rw[bY dz];have g:=(ad.refl [] w1).drew;have V:=E.aw g;have a2:hp w1 kb=some (.cells (mW h.wb id b k hv p1 p2 p3 p4 p5 p6 p7) 172):=E.kW hT;have C:ao (hp w1 kb) (0+0)=some (ptr h.wb):=by rw[a2];rfl
  have a9:ao (hp w1 kb) (0+1)=some (bS id):=by rw[a2];rfl
  have a3:ao (hp w1 kb) (0+2)=some (ptr b):=by rw[a2];rfl
  have fin:∀(w2:World) (T2:dN),Gx (fV h T o) w T w2 T2->dM T2 h c m->uw w2 T2 o kb h c id (jT c k op x)->P101_1 w2 (uC T w o kb h c m id (jT c k op x)):=λw2 T2 d H2 K2=>by
   apply L101_1_ok;exact⟨rfl,T2,d,H2,K2⟩
  by_cases k1:op.1=1
  ·have e:jT c k op x={k with mc:= .create (crNew op.2.2.2.1)}:=by rw[jT,bX k1]
   have q1:(op.1==1)=true:=by rw[k1];rfl
   simp only[zS,ptr,am,bm,ie,ag,gp,F,l3,q1,C];refine(c_Create V H op.2.2.2.1 o).mono ?_;rintro _ w2 ⟨xb,T2,rfl,d,G⟩;have a:=d.off kb _ hT (λh=>h);try simp only[zS,ptr,pH]
   refine aC (A':=mW h.wb id b {k with mc:= .create (crNew op.2.2.2.1)} hv (some ⟨xb,0,none⟩) p2 p3 p4 p5 p6 p7) d.rel a sz_164 ⟨rfl,rfl⟩ dA (by rw[aM];omega) λA B f i _ _=>?_;have I:=ux (p1:=some ⟨xb,0,none⟩) (k:=k) (mc':= .create (crNew op.2.2.2.1)) ((j.aw g).no d) ((z.aw g).gx d) ⟨xb,rfl,G⟩ a f i;have t:=fV.then (fV.then (Gx.bV (S:=fV h T o) R (D.trans g)) (wkNo d)) (fY a f)
   exact fin A B t ((H.no d).cL f a M) (by rw[e];exact I)
  have q1:(op.1==1)=false:=cN k1;have k3:=N.n3;have c6:=N.b3;by_cases k2:op.1=2
  ·have q2:(op.1==2)=true:=by rw[k2];rfl
   have b1:ao (hp w1 h.wb) (0+0+2)=some (bS c.2.2.1):=(m9 E H).2.1;have e:jT c k op x=(if op.2.2.2.1<1\/c.2.2.1<op.2.2.2.1 then cI k (bL 5)else{k with mc:= .alloc (alNew x.1 x.2.1 op.2.2.2.1)}):=by rw[jT,bY k1,bX k2]
   by_cases hb:op.2.2.2.1<1\/c.2.2.1<op.2.2.2.1
   ·rw[bX hb]at e;have b2:∀w2,ad [] w1 w2->aa prog 137 [ptr kb,.agg (oH (bL 5))] w2 λ_ w'=>P101_1 w' (uC T w o kb h c m id (jT c k op x)):=λw2 p=>by
     refine nc (k:=k) (E.aw p) H M (j.aw p) (z.aw p) hT (bL 5) λA B f H3 K3=>?_;exact fin A B ((Gx.bV R (D.trans p)).trans f) H3 (by rw[e];exact K3)
    by_cases h1:op.2.2.2.1<1
    ·simp only[zS,am,bm,ag,F,l3,q1,q2,h1,kN];exact b2 _ g
    ·have h2:op.2.2.2.1>c.2.2.1:=dy;simp only[zS,ptr,am,bm,ie,bR,fj,gp,ag,F,l3,q1,q2,C,b1,h1,h2,kN];exact b2 _ g
   ·rw[bY hb]at e;have h1:¬op.2.2.2.1<1:=λh=>hb (.inl h);have h2:¬c.2.2.1<op.2.2.2.1:=λh=>hb (.inr h);have W:=g.trans (ad.refl [] w1.drew).drew;simp only[zS,ptr,am,bm,bG,gR,ie,fa_172_2,bR,fj,gp,jO,ag,F,l3,n0,n1,q1,q2,C,a3,b1,h1,h2];refine(c_Alloc (h:=h) (E.aw W) x.1 x.2.1 op.2.2.2.1 o).mono ?_;rintro _ w2 ⟨ab,T2,rfl,d,G⟩;have a:=d.off kb _ hT (λh=>h);try simp only[zS,ptr,fa_172_12]
    refine aC (A':=mW h.wb id b {k with mc:= .alloc (alNew x.1 x.2.1 op.2.2.2.1)} hv p1 (some ⟨ab,0,none⟩) p3 p4 p5 p6 p7) d.rel a sz_165 ⟨rfl,rfl⟩ dA (by rw[aM];omega) λA B f i _ _=>?_;have I:=ux (p2:=some ⟨ab,0,none⟩) (k:=k) (mc':= .alloc (alNew x.1 x.2.1 op.2.2.2.1)) ((j.aw W).no d) ((z.aw W).gx d) ⟨ab,rfl,G⟩ a f i;have t:=fV.then (fV.then (Gx.bV (S:=fV h T o) R (D.trans W)) (wkNo d)) (fY a f)
    exact fin A B t ((H.no d).cL f a M) (by rw[e];exact I)
  have q2:(op.1==2)=false:=cN k2;by_cases X:op.1=10
  ·have e:jT c k op x={k with mc:= .free (tT x.1 x.2.1)}:=by rw[jT];simp[X]
   simp only[zS,ptr,am,bG,gR,fa_172_2,jO,ag,F,n0,n1,X,Int.reduceBEq,a3];refine(c_Free V (j.aw g) x.1 x.2.1).mono ?_;rintro _ w2 ⟨ab,T2,rfl,d,G⟩;have a:=d.off kb _ hT (λh=>h);try simp only[zS,ptr,fa_172_16]
   refine aC (A':=mW h.wb id b {k with mc:= .free (tT x.1 x.2.1)} hv p1 p2 p3 p4 p5 (some ⟨ab,0,none⟩) p7) d.rel a sz_169 ⟨rfl,rfl⟩ dA (by rw[aM];omega) λA B f i _ _=>?_;have I:=ux (p6:=some ⟨ab,0,none⟩) (k:=k) (mc':= .free (tT x.1 x.2.1)) ((j.aw g).no d) ((z.aw g).gx d) ⟨ab,rfl,G⟩ a f i;have t:=fV.then (fV.then (Gx.bV (S:=fV h T o) R (D.trans g)) (wkNo d)) (fY a f)
   exact fin A B t ((H.no d).cL f a M) (by rw[e];exact I)
  by_cases Y:op.1=11
  ·have e:jT c k op x={k with mc:= .collect coNew}:=by rw[jT];simp[Y]
   simp only[zS,ptr,am,fa_172_2,jO,ag,F,Y,Int.reduceBEq,a3];refine(c_Collect E H j).mono ?_;rintro _ w2 ⟨ab,T2,rfl,d,G⟩;have a:=d.off kb _ hT (λh=>h);try simp only[zS,ptr,fa_172_17]
   refine aC (A':=mW h.wb id b {k with mc:= .collect coNew} hv p1 p2 p3 p4 p5 p6 (some ⟨ab,0,none⟩)) d.rel a sz_170 ⟨rfl,rfl⟩ dA (by rw[aM];omega) λA B f i _ _=>?_;have I:=ux (p7:=some ⟨ab,0,none⟩) (k:=k) (mc':= .collect coNew) (j.no d) (z.gx d) ⟨ab,rfl,G⟩ a f i;have t:=fV.then (fV.then (Gx.bV (S:=fV h T o) R D) (wkNo d)) (fY a f)
   exact fin A B t ((H.no d).cL f a M) (by rw[e];exact I)
  have a4:ai prog (Instr.build 226 #[(0,ptr h.wb),(1,bS x.1),(2,bS x.2.1)])=some (.agg (lkA h.wb (qZ x.1 x.2.1))):=bd_226_0_1_2;simp only[ptr]at a4;have look:jT c k op x={k with mc:= .look (qZ x.1 x.2.1)}->∀w2,ad [] w1 w2->dE prog (Instr.storeAt 168 (.pointer (some ⟨kb,0+32,none⟩)) (bU w2.heap.size)) (w2.alloc (.cells (lkA h.wb (qZ x.1 x.2.1)) 226)) λw'=>P101_1 w' (uC T w o kb h c m id (jT c k op x)):=λe w2 p=>by
   have d:=Gx.p8 (S:=λ_=>False) (E.aw p) o 226 (lkA h.wb (qZ x.1 x.2.1)).toList;have G:LkR (iz T w2.heap.size (.st o 226 ((lkA h.wb (qZ x.1 x.2.1)).toList.map fQ.v))) o w2.heap.size h (qZ x.1 x.2.1):=ax;have a:=d.off kb _ hT (λh=>h);refine aC (A':=mW h.wb id b {k with mc:= .look (qZ x.1 x.2.1)} hv p1 p2 p3 p4 (some ⟨w2.heap.size,0,none⟩) p6 p7) d.rel a sz_168 ⟨rfl,rfl⟩ dA (by rw[aM];omega) λA B f i _ _=>?_;have I:=ux (p5:=some ⟨w2.heap.size,0,none⟩) (k:=k) (mc':= .look (qZ x.1 x.2.1)) ((j.aw p).no d) ((z.aw p).gx d) ⟨_,rfl,G⟩ a f i;have t:=fV.then (fV.then (Gx.bV (S:=fV h T o) R (D.trans p)) (wkNo d)) (fY a f)
   exact fin A B t ((H.no d).cL f a M) (by rw[e];exact I)
  by_cases Z:op.1=12
  ·have e:jT c k op x={k with mc:= .look (qZ x.1 x.2.1)}:=by rw[jT];simp[Z]
   simp only[zS,ptr,am,bG,gR,ie,pI,gp,ag,F,n0,n1,Z,Int.reduceBEq,C,a4,ak,au];exact look e _ g
  have k9:ao (hp w1 h.wb) (0+9)=some (ptr h.eb):=(m9 E H).2.2.2.2;have kd:ao (hp w1 kb) (0+3+0)=some (bS k.depth):=(wk_d E hT).1;have now:∀(w2:World) (T2:dN) (k2:jR) (a5:Value) (r:jo),Gx (fV h T o) w T w2 T2->dM T2 h c m->fX w2 T2 o b sb lb h c k2.su->SlK w2 T2 a5 k2.holds->T2 kb=some (uu o h.wb id b k2 a5 p1 p2 p3 p4 p5 p6 p7)->jT c k op x=cI k2 r->
    aa prog 137 [ptr kb,.agg (oH r)] w2 λ_ w'=>P101_1 w' (uC T w o kb h c m id (jT c k op x)):=λw2 T2 k2 a5 r d H2 U2 L2 a e=>by
   refine nc (k:=k2) d.rel H2 M U2 L2 a r λA B f H3 K3=>?_;exact fin A B (fV.then d f) H3 (by rw[e];exact K3)
  have a6:Gx (fV h T o) w T w1 T:=Gx.bV R D;have q:Gx (fV h T o) w T w1.drew T:=Gx.bV R (D.trans g);by_cases J:op.1=3
  ·by_cases y:k.depth=0
   ·have e:jT c k op x={k with mc:= .enter ⟨0,0,false⟩}:=by rw[jT];simp[J,y]
    have O:ai prog (Instr.build 220 #[(0,ptr h.eb),(1,bS id)])=some (.agg (enA h.eb id ⟨0,0,false⟩)):=bd_220_0_1;simp only[ptr]at O;have P:(k.depth==0)=true:=by rw[y];rfl
    simp only[zS,ptr,am,ie,fa_172_1,jZ,fa_172_13,gV,fa_153_4,gp,qz,ag,F,J,Int.reduceBEq,C,a9,k9,kd,P,O,ak,au];have d:=Gx.p8 (S:=λ_=>False) V o 220 (enA h.eb id ⟨0,0,false⟩).toList;have G:EnR (iz T w1.drew.heap.size (.st o 220 ((enA h.eb id ⟨0,0,false⟩).toList.map fQ.v))) o w1.drew.heap.size h id ⟨0,0,false⟩:=ax;have a:=d.off kb _ hT (λh=>h);refine aC (A':=mW h.wb id b {k with mc:= .enter ⟨0,0,false⟩} hv p1 p2 (some ⟨w1.drew.heap.size,0,none⟩) p4 p5 p6 p7) d.rel a sz_166 ⟨rfl,rfl⟩ dA (by rw[aM];omega) λA B f i _ _=>?_;have I:=ux (p3:=some ⟨w1.drew.heap.size,0,none⟩) (k:=k) (mc':= .enter ⟨0,0,false⟩) ((j.aw g).no d) ((z.aw g).gx d) ⟨_,rfl,G⟩ a f i;exact fin A B (fV.then (fV.then q (wkNo d)) (fY a f)) ((H.no d).cL f a M) (by rw[e];exact I)
   ·have e:jT c k op x=cI (kt k).2 (bL (kt k).1):=by rw[jT];simp[J,y]
    have P:(k.depth==0)=false:=cN y;simp only[zS,am,jZ,gV,ag,F,J,Int.reduceBEq,kd,P];refine(c_gPin E hT a7).mono ?_;rintro _ w2 ⟨u,rfl,T2,d,a⟩;have K:(kt k).2.su=k.su/\(kt k).2.holds=k.holds:=by unfold kt;split<;>exact⟨rfl,rfl⟩
    have U2:=j.gx d (aA j.n hT dz) (by obtain⟨_,K,_⟩:=j.s;exact aA K hT dz) (by obtain⟨_,K,_⟩:=j.l;exact aA K hT dz);try simp only[jk,jm,ac,kN]
    exact now w2 T2 (kt k).2 hv _ (fV.then a6 (fY hT d)) (H.cL d hT M) (by rw[K.1];exact U2) (by rw[K.2];exact z.gx d) a e
  by_cases k4:op.1=4
  ·by_cases Q:k.depth=1
   ·have e:jT c k op x={k with mc:= .leave false}:=by rw[jT];simp[k4,Q]
    have O:ai prog (Instr.build 224 #[(0,ptr h.eb),(1,bS id)])=some (.agg (lvA h.eb id false)):=bd_224_0_1;simp only[ptr]at O;have P:(k.depth==1)=true:=by rw[Q];rfl
    simp only[zS,ptr,am,ie,fa_172_1,jZ,fa_172_14,gV,fa_153_4,gp,qz,ag,F,k4,Int.reduceBEq,C,a9,k9,kd,P,O,ak,au];have d:=Gx.p8 (S:=λ_=>False) V o 224 (lvA h.eb id false).toList;have G:LvR (iz T w1.drew.heap.size (.st o 224 ((lvA h.eb id false).toList.map fQ.v))) o w1.drew.heap.size h id false:=ax;have a:=d.off kb _ hT (λh=>h);refine aC (A':=mW h.wb id b {k with mc:= .leave false} hv p1 p2 p3 (some ⟨w1.drew.heap.size,0,none⟩) p5 p6 p7) d.rel a sz_167 ⟨rfl,rfl⟩ dA (by rw[aM];omega) λA B f i _ _=>?_;have I:=ux (p4:=some ⟨w1.drew.heap.size,0,none⟩) (k:=k) (mc':= .leave false) ((j.aw g).no d) ((z.aw g).gx d) ⟨_,rfl,G⟩ a f i;exact fin A B (fV.then (fV.then q (wkNo d)) (fY a f)) ((H.no d).cL f a M) (by rw[e];exact I)
   ·have e:jT c k op x=cI (dP k).2 (bL (dP k).1):=by rw[jT];simp[k4,Q]
    have P:(k.depth==1)=false:=cN Q;simp only[zS,am,jZ,gV,ag,F,k4,Int.reduceBEq,kd,P];refine(c_gUnpin E hT a7).mono ?_;rintro _ w2 ⟨u,rfl,T2,d,a⟩;rw[bY Q]at a;have K:(dP k).2.su=k.su/\(dP k).2.holds=k.holds:=by
     unfold dP;split
     ·exact⟨rfl,rfl⟩
     ·simp only;rw[bY dy];exact⟨rfl,rfl⟩
    have U2:=j.gx d (aA j.n hT dz) (by obtain⟨_,K,_⟩:=j.s;exact aA K hT dz) (by obtain⟨_,K,_⟩:=j.l;exact aA K hT dz);try simp only[jk,jm,ac,kN]
    exact now w2 T2 (dP k).2 hv _ (fV.then a6 (fY hT d)) (H.cL d hT M) (by rw[K.1];exact U2) (by rw[K.2];exact z.gx d) a e
  have b6:ai prog (Instr.build 35 #[])=some (.agg (oH lV)):=bd_35_;have gh:∀w2,ad [] w1 w2->aa prog 142 [.pointer (some ⟨kb,0+3,none⟩),bS x.1,bS x.2.1] w2 λv w'=>v= .bool (pw k x.1 x.2.1)/\w'=w2:=λw2 p=>c_gHolds (E.aw p) hT (z.aw p) b7 x.1 x.2.1;by_cases k5:op.1=5
  ·have e:jT c k op x=(if k.depth=0 then cI k (bL 4)else if pw k x.1 x.2.1 then cI k lV else if k.holds.length=8 then cI k (bL 8)else{k with mc:= .look (qZ x.1 x.2.1)}):=by rw[jT];simp[k5]
   by_cases y:k.depth=0
   ·rw[bX y]at e;have P:(k.depth==0)=true:=by rw[y];rfl
    simp only[zS,am,jZ,gV,ag,F,k5,Int.reduceBEq,kd,P,kN];exact now w1 T k hv _ a6 H j z hT e
   ·rw[bY y]at e;have P:(k.depth==0)=false:=cN y;simp only[zS,am,bG,gR,jZ,gV,ag,F,n0,n1,k5,Int.reduceBEq,kd,P];refine(gh _ g).step ?_;cases hh:pw k x.1 x.2.1 with
    |true=>
     rw[bX hh]at e;simp only[zS,b6];exact now w1.drew T k hv _ q H (j.aw g) (z.aw g) hT e
    |false=>
     rw[bY (by rw[hh];decide)]at e;obtain⟨Ak,nk,rfl,b8,Lk⟩:=z;have kh:ao (hp w1 kb) (0+3+1)=some (.slice Ak k.holds.length nk):=(wk_d E hT).2;by_cases h8:k.holds.length=8
     ·rw[bX h8]at e;have q8:((k.holds.length:Int)==8)=true:=by rw[h8];rfl
      simp only[zS,jY,kJ,jL,kh,q8,kN];exact now w1.drew T k _ _ q H (j.aw g) ⟨Ak,nk,rfl,b8,Lk.aw g⟩ hT e
     ·rw[bY h8]at e;have q8:((k.holds.length:Int)==8)=false:=cN dy;simp only[zS,ptr,ie,pI,jY,kJ,gp,jL,kh,q8,n0,n1,C,a4,ak,au];exact look e _ (g.trans (ad.refl [] w1.drew).drew)
  have e:jT c k op x=(if pw k x.1 x.2.1=false then cI k (bL 4)else if x.2.2.2.2<=op.2.2.2.1 then cI k (bL 5)else{k with mc:= .none}):=by rw[jT];simp[k1,k2,J,k4,k5,X,Y,Z]
  have q3:(op.1==3)=false:=cN J;have b9:(op.1==4)=false:=cN k4;have c2:(op.1==5)=false:=cN k5;have c3:(op.1==10)=false:=cN X;have c4:(op.1==11)=false:=cN Y;have c5:(op.1==12)=false:=cN Z;simp only[zS,am,bG,gR,jZ,ag,F,n0,n1,q1,q2,q3,b9,c2,c3,c4,c5];refine(gh _ g).step ?_;cases hh:pw k x.1 x.2.1 with
  |false=>
   rw[bX hh]at e;simp only[zS,kN];exact now w1.drew T k hv _ q H (j.aw g) (z.aw g) hT e
  |true=>
   rw[bY (by rw[hh];decide)]at e;by_cases hn:x.2.2.2.2<=op.2.2.2.1
   ·rw[bX hn]at e;simp only[zS,bm,iK,ag,l3,n4,hn,kN];exact now w1.drew T k hv _ q H (j.aw g) (z.aw g) hT e
   ·rw[bY hn]at e;simp only[zS,bm,iK,ag,l3,n4,hn];exact fin w1.drew T q H (by rw[e];exact⟨b,sb,lb,hv,p1,p2,p3,p4,p5,p6,p7,hT,j.aw g,z.aw g,trivial⟩)
end
section
variable{w w0 w1 w2 w':World}{T T1 T2 T':dN}{h:Hm}{c:cP}{m m':bI}{o o' b sb lb q kb wb q4 q5:Nat}{es es':List TypeId}{k:jR}{id:Nat}{hv:Value}{p1 p2 p3 p4 p5 p6 p7:Option Addr}
theorem c_Start(N:gM c)(R:Rel w T)(H:dM T h c m)(X:o≠0)(K:uw w T o kb h c id k)(A:0<=k.depth/\k.depth<=15)(B:k.holds.length<=100)(op:ez)(x:eF):
  aa prog 101 [ptr kb,.agg (dC op).toArray,.agg (rq x)] w λv w'=>v= .bool (!(k.busy|| !jz op))/\∃T',Gx (fV h T o) w T w' T'/\dM T' h c m/\uw w' T' o kb h c id (jj c k op x):=by
 apply F101_ok;have K0:=K;obtain⟨b,sb,lb,hv,p1,p2,p3,p4,p5,p6,p7,hT,U,L,M⟩:=K;simp only[F101,ak,au];generalize i:w.alloc (.cells (dC op).toArray 37)=w1;have Y:ad [] w w1:=by rw[<- i];exact(ad.refl _ _).alloc _
 have b1:hp w1 w.heap.size=some (.cells (dC op).toArray 37):=by rw[<- i,af,bX rfl]
 clear i;generalize j:w1.alloc (.cells (rq x) 32)=w2;have Z:ad [] w1 w2:=by rw[<- j];exact(ad.refl _ _).alloc _
 have b5:hp w2 w1.heap.size=some (.cells (rq x) 32):=by rw[<- j,af,bX rfl]
 have b4:=Z.at b1 (by simp);clear j;have u:=Y.trans Z;have n4:T w.heap.size=none:=R.fresh (cy _);have n5:T w1.heap.size=none:=(R.aw Y).fresh (cy _);generalize w.heap.size=q4 at*;generalize w1.heap.size=q5 at*;have R2:=R.aw u;have C:hp w2 kb=some (.cells (mW h.wb id b k hv p1 p2 p3 p4 p5 p6 p7) 172):=R2.kW hT;have fb:ao (hp w2 kb) (0+5)=some (.bool k.busy):=by rw[C];rfl
 have no:k.busy=true\/jz op=false->∀g,ad [] w2 g->∃T',Gx (fV h T o) w T g T'/\dM T' h c m/\uw g T' o kb h c id (jj c k op x):=λhh g p=>by
  have e:jj c k op x=k:=by rw[jj,bX hh]
  rw[e];exact⟨T,Gx.bV R (u.trans p),H,K0.sQ (Gx.bV (S:=λ_=>False) R (u.trans p)) λ_ _ _ _ h=>h⟩
 cases d:k.busy with
 |true=>
  rw[d]at fb;simp only[zS,ptr,bj,aB,fb];exact⟨by first|rfl|trivial|simp,no (.inl d) _ (ad.refl _ _)⟩
 |false=>
 rw[d]at fb;simp only[zS,ptr,bj,aB,fb,ld_opA b4];refine(c_refMay op w2).mono ?_;rintro _ g ⟨rfl,p⟩;cases hm:jz op with
 |false=>
  simp only[zS];exact⟨by first|rfl|trivial|simp,no (.inr hm) _ p⟩
 |true=>
 have D:=(ad.refl [] g).drew;have f:=(u.trans p).trans D;have R3:=R.aw f;have r:=D.at (p.at b4 (by simp)) (by simp);have t:=D.at (p.at b5 (by simp)) (by simp);simp only[zS,gm,fa_172_6,j0,eU,fa_172_9,ld_opA (w:=g.drew) r,sP (w:=g.drew) t];repeat' apply And.intro
 all_goals
  refine aC (A':=mW h.wb id b {k with busy:=true} hv p1 p2 p3 p4 p5 p6 p7) R3 hT mQ ⟨rfl,rfl⟩ dA (by rw[aM];omega) λw4 T4 y E _ _=>?_;have F:=y.loc r n4;have G:=y.loc t n5;try simp only[ac,ld_opA F.1,sP G.1]
  refine nd_ws (A':=mW h.wb id b {k with busy:=true,o:=op} hv p1 p2 p3 p4 p5 p6 p7) y.rel E nZ ⟨rfl,rfl,dz⟩ dA (by rw[aM];omega) λw5 T5 z I _ _=>?_;have d4:=z.loc F.1 F.2;have J:=z.loc G.1 G.2;try simp only[ac,sP J.1]
  refine nd_ws (A':=mW h.wb id b {k with busy:=true,o:=op,h:=x} hv p1 p2 p3 p4 p5 p6 p7) z.rel I ma ⟨rfl,rfl,dz⟩ dA (by rw[aM];omega) λw6 T6 g6 O _ _=>?_;refine aC (A':=mW h.wb id b {k with busy:=true,o:=op,h:=x,steps:=0} hv p1 p2 p3 p4 p5 p6 p7) g6.rel O aE ⟨rfl,rfl⟩ dA (by rw[aM];omega) λw7 T7 g7 P _ _=>?_;refine aC (A':=mW h.wb id b {k with busy:=true,o:=op,h:=x,steps:=0,point:=0} hv p1 p2 p3 p4 p5 p6 p7) g7.rel P aE ⟨rfl,rfl⟩ dA (by rw[aM];omega) λw8 T8 g8 Q _ _=>?_;refine aC (A':=mW h.wb id b {k with busy:=true,o:=op,h:=x,steps:=0,point:=0,back:=0} hv p1 p2 p3 p4 p5 p6 p7) g8.rel Q aE ⟨rfl,rfl⟩ dA (by rw[aM];omega) λw9 T9 g9 V _ _=>?_;have q:=((g6.trans g7).trans g8).trans g9;have a:=(y.trans z).trans q;have e4:=q.loc d4.1 d4.2;have e5:=q.loc J.1 J.2;refine Part.mono (wk_tail (k:={k with busy:=true,o:=op,h:=x,steps:=0,point:=0,back:=0}) N a.rel (H.cL a hT X) X ((U.aw f).gx a (aA U.n hT dz) (by obtain⟨_,W,_⟩:=U.s;exact aA W hT dz) (by obtain⟨_,W,_⟩:=U.l;exact aA W hT dz)) ((L.aw f).gx a) V e4.1 e5.1 A B) λv w' hq=>?_;obtain⟨e1,T',g',H',K'⟩:=hq;refine⟨by rw[e1];rfl,T',fV.then (fV.then (Gx.bV (S:=fV h T o) R f) (fY hT a)) g',H',?_⟩;have e:jj c k op x=(if jS c op x=false then cI {k with busy:=true,o:=op,h:=x,steps:=0,point:=0,back:=0} (bL 2)else jT c {k with busy:=true,o:=op,h:=x,steps:=0,point:=0,back:=0} op x):=by rw[jj,bY (by rw[d,hm];decide)]
  rw[e];exact K'
end
section
variable{w w0 w1 w2 w':World}{T T1 T2 T':dN}{h:Hm}{c:cP}{m m':bI}{o o' b sb lb q kb wb q4 q5:Nat}{es es':List TypeId}{k:jR}{id:Nat}{hv:Value}{p1 p2 p3 p4 p5 p6 p7:Option Addr}
def McOk(c:cP)(m:bI)(k:jR):McV->Prop
 | .create x=>k.o.1=1/\CrOk c x
 | .alloc x=>k.o.1=2/\AlOk c x
 | .enter x=>k.o.1=3/\x.done=false
 | .leave d=>k.o.1=4/\d=false
 | .look x=>(k.o.1=5\/k.o.1=12)/\LkOk c x/\x.done=false
 | .free x=>k.o.1=10/\FrOk c x
 | .collect x=>k.o.1=11/\CoOk c x/\(fT k.su (fP (di m 2))).st.length<=100000
 | .none=>(6<=k.o.1/\k.o.1<=9)/\(0<=k.h.2.2.1/\k.h.2.2.1<cC c)/\(0<=k.h.2.2.2.1+k.o.2.2.2.1/\k.h.2.2.2.1+k.o.2.2.2.1<cK c)
structure WkOk(c:cP)(m:bI)(k:jR):Prop where
 depth:0<=k.depth/\k.depth<=15
 holds:k.holds.length<=100
 steps:0<=k.steps/\k.steps<=1000000000
 su:rn k.su
 room:k.su.st.length+100<=100000
 mc:k.busy=true->McOk c m k k.mc
theorem ku(U:fX w T o b sb lb h c k.su){e:jR}{a:Value}{f i j m p r t:Option Addr}(hT:T kb=some (uu o h.wb id b e a f i j m p r t))(g:Gx (λq=>q=kb) w T w' T'):fX w' T' o b sb lb h c k.su:=
 U.gx g (aA U.n hT dz) (by obtain⟨_,d,_⟩:=U.s;exact aA d hT dz) (by obtain⟨_,d,_⟩:=U.l;exact aA d hT dz)
theorem q6{x:McV}(M:McR w T o b h id p1 p2 p3 p4 p5 p6 p7 x){f:jR}{a:Value}{i j k l m n p:Option Addr}(hT:T kb=some (uu o h.wb id b f a i j k l m n p))(g:Gx (λq=>q=kb) w T w' T'):McR w' T' o b h id p1 p2 p3 p4 p5 p6 p7 x:=
 M.sQ g λq e cs d c r=>by rw[r,hT]at d;cases d;exact c rfl
structure WkF(w:World)(kb wb id b:Nat)(k:jR)(hv:Value)(p1 p2 p3 p4 p5 p6 p7:Option Addr):Prop where
 wb:ao (hp w kb) (0+0)=some (ptr wb)
 busy:ao (hp w kb) (0+5)=some (.bool k.busy)
 o0:ao (hp w kb) (0+6+0)=some (bS k.o.1)
 steps:ao (hp w kb) (0+17)=some (bS k.steps)
 c1:ao (hp w kb) (0+28)=some (.pointer p1)
 c2:ao (hp w kb) (0+29)=some (.pointer p2)
 c3:ao (hp w kb) (0+30)=some (.pointer p3)
 c4:ao (hp w kb) (0+31)=some (.pointer p4)
 c5:ao (hp w kb) (0+32)=some (.pointer p5)
 c6:ao (hp w kb) (0+33)=some (.pointer p6)
 c7:ao (hp w kb) (0+34)=some (.pointer p7)
theorem kO(R:Rel w T)(hT:T kb=some (uu o wb id b k hv p1 p2 p3 p4 p5 p6 p7)):WkF w kb wb id b k hv p1 p2 p3 p4 p5 p6 p7:=by
 have hb:hp w kb=some (.cells (mW wb id b k hv p1 p2 p3 p4 p5 p6 p7) 172):=R.kW hT;constructor<;>rw[hb]<;>rfl
end
section
variable{w w0 w1 w2 w':World}{T T1 T2 T':dN}{h:Hm}{c:cP}{m m':bI}{o o' b sb lb q kb wb q4 q5:Nat}{es es':List TypeId}{k:jR}{id:Nat}{hv:Value}{p1 p2 p3 p4 p5 p6 p7:Option Addr}
theorem bd_hn2(x y:Int):ai prog (Instr.build 32 #[(0,bS x),(1,bS y)])=some (.agg (rq (x,y,0,0,0))):=bd_32_0_1
theorem bd_rs01(n:Int)(x:eF):ai prog (Instr.build 35 #[(0,bS n),(1,.agg (rq x))])=some (.agg (oH (n,x,0,0))):=bd_35_0_1
theorem bd_rsH(x:eF):ai prog (Instr.build 35 #[(1,.agg (rq x))])=some (.agg (oH (0,x,0,0))):=bd_35_1
theorem bd_rs02(n i:Int):ai prog (Instr.build 35 #[(0,bS n),(2,bS i)])=some (.agg (oH (n,kY,i,0))):=bd_35_0_2
theorem bd_rs_:ai prog (Instr.build 35 #[])=some (.agg (oH lV)):=bd_35_
theorem s_create(N:gM c)(R:Rel w T)(H:dM T h c m)(u:o≠0)(M:eu c m)(hT:T kb=some (uu o h.wb id b k hv p1 p2 p3 p4 p5 p6 p7))(U:fX w T o b sb lb h c k.su)(L:SlK w T hv k.holds)(hs:0<=k.steps/\k.steps<=1000000000)(hb:k.busy=true)(hk:k.o.1=1){x:CrV}(hm:k.mc= .create x)(X:McR w T o b h id p1 p2 p3 p4 p5 p6 p7 (.create x))(OX:CrOk c x):
  aa prog 102 [ptr kb] w (uC T w o kb h c (aF c id m k).1 id (aF c id m k).2):=by
 obtain⟨xb,rfl,X⟩:=X;apply F102_ok;have F:=kO R hT;have fb:=F.busy;rw[hb]at fb;have ew:IntKind.i64.wrap (k.steps+1)=k.steps+1:=ap dy dy;rw[F102];simp only[ptr,ae,ac,bj,j0,aB,ag,fb,F.steps,aj,ew,zS];refine aC (A':=mW h.wb id b {k with steps:=k.steps+1} hv (some ⟨xb,0,none⟩) p2 p3 p4 p5 p6 p7) R hT aE ⟨rfl,rfl⟩ dA (by rw[aM];omega) λw1 T1 v j _ _=>?_;have XX:McR w1 T1 o b h id (some ⟨xb,0,none⟩) p2 p3 p4 p5 p6 p7 (.create x):=q6 ⟨xb,rfl,X⟩ hT v;obtain⟨_,eq,X1⟩:=XX;cases eq;have U1:=ku U hT v;have L1:=L.gx v;have G:=H.cL v hT u;have Q:=v.rel;have S:=kO Q j;have f0:ao (hp w1 kb) (0+6+0)=some (bS 1):=by have t:ao (hp w1 kb) (0+6+0)=some (bS k.o.1):=S.o0;rw[hk]at t;exact t
 simp only[ac,gm,pH,am,ag,ld_164,f0,S.c1,Int.reduceBEq,zS];refine(c_CrStep N Q G u M X1 OX).mono ?_;rintro _ w2 ⟨_,T2,l,V,W⟩;have a:=l.off kb _ j (SM.un G j u (.inr dz));have U2:=U1.sm G l u (.inr dz);have L2:=L1.gx l;have I:Gx (fV h T o) w T w2 T2:=fV.then (fY hT v) (wkSM l)
 have n:aF c id m k=((eL c m x).1,if(eL c m x).2.done=true/\(eL c m x).2.code≠0 then cI {k with steps:=k.steps+1,mc:= .create (eL c m x).2,point:=(eL c m x).2.point} (bL (eL c m x).2.code)else if(eL c m x).2.done then cI {k with steps:=k.steps+1,mc:= .create (eL c m x).2,point:=(eL c m x).2.point} (0,((eL c m x).2.slot,(eL c m x).2.gen,0,0,0),0,0)else{k with steps:=k.steps+1,mc:= .create (eL c m x).2,point:=(eL c m x).2.point}):=by
  rw[aF,bY (by rw[hb];decide)];simp only[hm]
 generalize hr:eL c m x=r at*;obtain⟨m2,f⟩:=r;have J:=W;obtain⟨y,g,hy⟩:=W;simp only at n V g;have FX:=cr_f l.rel g;have F2:=kO l.rel a;simp only[ae,ac,eU,fa_233_4,ag,F2.c1,FX.point];refine aC (A':=mW h.wb id b {k with steps:=k.steps+1,mc:= .create f,point:=f.point} hv (some ⟨xb,0,none⟩) p2 p3 p4 p5 p6 p7) l.rel a aE ⟨rfl,rfl⟩ dA (by rw[aM];omega) λK Y p q _ _=>?_;have M3:McR K Y o b h id (some ⟨xb,0,none⟩) p2 p3 p4 p5 p6 p7 (.create f):=q6 ⟨xb,rfl,J⟩ a p;have O:=p.off xb _ g (aA g a dz);have Z:=ku U2 a p;have L3:=L2.gx p;have H3:=V.cL p a u;have D:=p.rel;have F3:=kO D q;have d:=cr_f D O;have C:=fV.then I (fY a p)
 have fin:∀(r:bI×jR),aF c id m k=r->∀z s,Gx (fV h T o) w T z s->dM s h c r.1->uw z s o kb h c id r.2->P102_0 z (uC T w o kb h c (aF c id m k).1 id (aF c id m k).2):=by
  rintro r rfl z s h1 h2 h3;apply L102_0_ok;exact⟨rfl,s,h1,h2,h3⟩
 have now:∀(r:jo),aF c id m k=(m2,cI {k with steps:=k.steps+1,mc:= .create f,point:=f.point} r)->∀P,ad [] K P->aa prog 137 [ptr kb,.agg (oH r)] P λ_ w'=>P102_0 w' (uC T w o kb h c (aF c id m k).1 id (aF c id m k).2):=λr e P i=>by
  refine nc (k:={k with steps:=k.steps+1,mc:= .create f,point:=f.point}) (D.aw i) H3 u (Z.aw i) (L3.aw i) q r λz s g5 H5 K5=>?_;exact fin _ e z s (fV.then (fV.then C (Gx.bV D i)) g5) H5 K5
 cases A:f.done with
 |false=>
  have B:=d.done;rw[A]at B;rw[bY (by rw[A];simp),bY (by rw[A];decide)]at n;simp only[ae,ac,mi,aB,F3.c1,B,zS];exact fin _ n K Y C H3 ⟨b,sb,lb,hv,_,p2,p3,p4,p5,p6,p7,q,Z,L3,M3⟩
 |true=>
  have B:=d.done;rw[A]at B;by_cases E:f.code=0
  ·have fc:=d.code;rw[E]at fc;rw[bY (by rw[E];simp),bX A]at n;simp only[ae,ac,pH,nW,fa_233_6,fa_233_9,mi,aB,ag,jy,ld_164,F3.c1,B,fc,d.slot,d.gen,bd_hn2,bd_rsH,zS];exact now _ n _ ((ad.refl _ _).drew)
  ·have qc:(f.code !=0)=true:=bne_iff_ne.2 E;rw[bX ⟨A,E⟩]at n;simp only[ae,ac,pH,fa_233_9,mi,aB,jy,ld_164,F3.c1,B,d.code,qc,kN,zS];exact now _ n _ (ad.refl _ _)
end
section
variable{w w0 w1 w2 w':World}{T T1 T2 T':dN}{h:Hm}{c:cP}{m m':bI}{o o' b sb lb q kb wb q4 q5:Nat}{es es':List TypeId}{k:jR}{id:Nat}{hv:Value}{p1 p2 p3 p4 p5 p6 p7:Option Addr}
theorem s_alloc(N:gM c)(R:Rel w T)(H:dM T h c m)(A:o≠0)(M:eu c m)(hT:T kb=some (uu o h.wb id b k hv p1 p2 p3 p4 p5 p6 p7))(U:fX w T o b sb lb h c k.su)(L:SlK w T hv k.holds)(hs:0<=k.steps/\k.steps<=1000000000)(hb:k.busy=true)(hk:k.o.1=2){x:AlV}(hm:k.mc= .alloc x)(X:McR w T o b h id p1 p2 p3 p4 p5 p6 p7 (.alloc x))(O:rn k.su)(B:k.su.st.length+100<=100000)(OX:AlOk c x):
  aa prog 102 [ptr kb] w (uC T w o kb h c (aF c id m k).1 id (aF c id m k).2):=by
 obtain⟨xb,rfl,X⟩:=X;apply F102_ok;have F:=kO R hT;have fb:=F.busy;rw[hb]at fb;have ew:IntKind.i64.wrap (k.steps+1)=k.steps+1:=ap dy dy;rw[F102];simp only[ptr,ae,ac,bj,j0,aB,ag,fb,F.steps,aj,ew,zS];refine aC (A':=mW h.wb id b {k with steps:=k.steps+1} hv p1 (some ⟨xb,0,none⟩) p3 p4 p5 p6 p7) R hT aE ⟨rfl,rfl⟩ dA (by rw[aM];omega) λw1 T1 s j _ _=>?_;have XX:McR w1 T1 o b h id p1 (some ⟨xb,0,none⟩) p3 p4 p5 p6 p7 (.alloc x):=q6 ⟨xb,rfl,X⟩ hT s;obtain⟨_,eq,X1⟩:=XX;cases eq;have U1:=ku U hT s;have L1:=L.gx s;have W:=H.cL s hT A;have Y:=s.rel;have Z:=kO Y j;have f0:ao (hp w1 kb) (0+6+0)=some (bS 2):=by have t:ao (hp w1 kb) (0+6+0)=some (bS k.o.1):=Z.o0;rw[hk]at t;exact t
 simp only[ac,gm,fa_172_12,am,ag,ld_165,f0,Z.c2,Int.reduceBEq,zS];have fin:∀(r:bI×jR),aF c id m k=r->∀u l,Gx (fV h T o) w T u l->dM l h c r.1->uw u l o kb h c id r.2->P102_0 u (uC T w o kb h c (aF c id m k).1 id (aF c id m k).2):=by
  rintro r rfl u l h1 h2 h3;apply L102_0_ok;exact⟨rfl,l,h1,h2,h3⟩
 refine(c_AlStep N Y W A M U1 O B X1 OX).mono ?_;rintro _ w2 ⟨_,T2,v,H2,U2,X2⟩;have a:=v.off kb _ j (SM.un W j A (.inr dz));have L2:=L1.gx v;have K:Gx (fV h T o) w T w2 T2:=fV.then (fY hT s) (wkSM v)
 have C:aF c id m k=((eC c m k.su x).1,if(eC c m k.su x).2.2.done then cI {k with steps:=k.steps+1,su:=(eC c m k.su x).2.1,mc:= .alloc (eC c m k.su x).2.2,point:=(eC c m k.su x).2.2.point} ((eC c m k.su x).2.2.code,(eC c m k.su x).2.2.h,0,0)else{k with steps:=k.steps+1,su:=(eC c m k.su x).2.1,mc:= .alloc (eC c m k.su x).2.2,point:=(eC c m k.su x).2.2.point}):=by
  rw[aF,bY (by rw[hb];decide)];simp only[hm]
 generalize hr:eC c m k.su x=r at*;obtain⟨m2,E,d⟩:=r;have P:=X2;obtain⟨y,z,f,_⟩:=X2;simp only at C H2 U2 f;have F2:=kO v.rel a;have Q:hp w2 xb=some (.cells (ry b d (.pointer y) (.pointer z)) 237):=v.rel.kW f;have pt:ao (hp w2 xb) (0+6)=some (bS d.point):=by rw[Q];rfl
 simp only[ae,ac,eU,fa_237_6,ag,F2.c2,pt];refine aC (A':=mW h.wb id b {k with steps:=k.steps+1,su:=E,mc:= .alloc d,point:=d.point} hv p1 (some ⟨xb,0,none⟩) p3 p4 p5 p6 p7) v.rel a aE ⟨rfl,rfl⟩ dA (by rw[aM];omega) λi T3 n p _ _=>?_;have M3:McR i T3 o b h id p1 (some ⟨xb,0,none⟩) p3 p4 p5 p6 p7 (.alloc d):=q6 ⟨xb,rfl,P⟩ a n;have S:=n.off xb _ f (aA f a dz);have U3:=ku (k:={k with su:=E}) U2 a n;have L3:=L2.gx n;have H3:=H2.cL n a A;have G:=n.rel;have F3:=kO G p;have D:=fV.then K (fY a n)
 have now:∀(r:jo),aF c id m k=(m2,cI {k with steps:=k.steps+1,su:=E,mc:= .alloc d,point:=d.point} r)->∀V,ad [] i V->aa prog 137 [ptr kb,.agg (oH r)] V λ_ w'=>P102_0 w' (uC T w o kb h c (aF c id m k).1 id (aF c id m k).2):=λr e V g=>by
  refine nc (k:={k with steps:=k.steps+1,su:=E,mc:= .alloc d,point:=d.point}) (G.aw g) H3 A (U3.aw g) (L3.aw g) p r λu l g5 H5 K5=>?_;exact fin _ e u l (fV.then (fV.then D (Gx.bV G g)) g5) H5 K5
 have q:hp i xb=some (.cells (ry b d (.pointer y) (.pointer z)) 237):=G.kW S;have I:ao (hp i xb) (0+20)=some (.bool d.done):=by rw[q];rfl
 have fc:ao (hp i xb) (0+13)=some (bS d.code):=by rw[q];rfl
 have fh:fR prog 32 (.pointer (some ⟨xb,0+14,none⟩)) i.drew=some (.agg (rq d.h)):=by rw[ld_32,show hp i.drew xb=_ from q];rfl
 cases J:d.done with
 |false=>
  rw[J]at I;rw[bY (by rw[J];decide)]at C;simp only[ae,ac,pN,aB,F3.c2,I,zS];exact fin _ C i T3 D H3 ⟨b,sb,lb,hv,p1,_,p3,p4,p5,p6,p7,p,U3,L3,M3⟩
 |true=>
  rw[J]at I;rw[bX J]at C;simp only[ae,ac,ta,fa_237_14,pN,aB,jy,F3.c2,I,fc,fh,bd_rs01,zS];exact now _ C _ ((ad.refl _ _).drew)
theorem s_free(N:gM c)(R:Rel w T)(H:dM T h c m)(y:o≠0)(M:eu c m)(hT:T kb=some (uu o h.wb id b k hv p1 p2 p3 p4 p5 p6 p7))(U:fX w T o b sb lb h c k.su)(L:SlK w T hv k.holds)(hs:0<=k.steps/\k.steps<=1000000000)(hb:k.busy=true)(hk:k.o.1=10){x:FrV}(hm:k.mc= .free x)(X:McR w T o b h id p1 p2 p3 p4 p5 p6 p7 (.free x))(O:rn k.su)(OX:FrOk c x):
  aa prog 102 [ptr kb] w (uC T w o kb h c (aF c id m k).1 id (aF c id m k).2):=by
 obtain⟨xb,rfl,X⟩:=X;apply F102_ok;have F:=kO R hT;have fb:=F.busy;rw[hb]at fb;have ew:IntKind.i64.wrap (k.steps+1)=k.steps+1:=ap dy dy;rw[F102];simp only[ptr,ae,ac,bj,j0,aB,ag,fb,F.steps,aj,ew,zS];refine aC (A':=mW h.wb id b {k with steps:=k.steps+1} hv p1 p2 p3 p4 p5 (some ⟨xb,0,none⟩) p7) R hT aE ⟨rfl,rfl⟩ dA (by rw[aM];omega) λw1 T1 s i _ _=>?_;have XX:McR w1 T1 o b h id p1 p2 p3 p4 p5 (some ⟨xb,0,none⟩) p7 (.free x):=q6 ⟨xb,rfl,X⟩ hT s;obtain⟨_,eq,X1⟩:=XX;cases eq;have U1:=ku U hT s;have L1:=L.gx s;have Y:=H.cL s hT y;have Z:=s.rel;have F1:=kO Z i;have f0:ao (hp w1 kb) (0+6+0)=some (bS 10):=by have t:ao (hp w1 kb) (0+6+0)=some (bS k.o.1):=F1.o0;rw[hk]at t;exact t
 simp only[ac,gm,fa_172_16,am,ag,ld_169,f0,F1.c6,Int.reduceBEq,zS];have fin:∀(r:bI×jR),aF c id m k=r->∀u j,Gx (fV h T o) w T u j->dM j h c r.1->uw u j o kb h c id r.2->P102_0 u (uC T w o kb h c (aF c id m k).1 id (aF c id m k).2):=by
  rintro r rfl u j h1 h2 h3;apply L102_0_ok;exact⟨rfl,j,h1,h2,h3⟩
 refine(c_FrStep N Z Y y M U1 O X1 OX).mono ?_;rintro _ w2 ⟨_,T2,l,H2,U2,X2⟩;have d:=l.off kb _ i (SM.un Y i y (.inr dz));have L2:=L1.gx l;have J:Gx (fV h T o) w T w2 T2:=fV.then (fY hT s) (wkSM l)
 have z:aF c id m k=((eD c m k.su x).1,if(eD c m k.su x).2.2.done then cI {k with steps:=k.steps+1,su:=(eD c m k.su x).2.1,mc:= .free (eD c m k.su x).2.2,point:=(eD c m k.su x).2.2.point,back:=(eD c m k.su x).2.2.back} (bL (eD c m k.su x).2.2.code)else{k with steps:=k.steps+1,su:=(eD c m k.su x).2.1,mc:= .free (eD c m k.su x).2.2,point:=(eD c m k.su x).2.2.point,back:=(eD c m k.su x).2.2.back}):=by
  rw[aF,bY (by rw[hb];decide)];simp only[hm]
 generalize hr:eD c m k.su x=r at*;obtain⟨m2,A,a⟩:=r;have K:=X2;obtain⟨eb,y1,y2,y3,f,_⟩:=X2;simp only at z H2 U2 f;have F2:=kO l.rel d;have B:hp w2 xb=some (.cells (frA b a (ptr eb) (.pointer y1) (.pointer y2) (.pointer y3)) 243):=l.rel.kW f;have pt:ao (hp w2 xb) (0+3)=some (bS a.point):=by rw[B];rfl
 have bt:ao (hp w2 xb) (0+4)=some (bS a.back):=by rw[B];rfl
 have cd:=(ad.refl [] w2).drew;simp only[ae,ac,eU,fa_243_3,fa_243_4,ag,F2.c6,pt,bt,zS];refine aC (A':=mW h.wb id b {k with steps:=k.steps+1,su:=A,mc:= .free a,point:=a.point} hv p1 p2 p3 p4 p5 (some ⟨xb,0,none⟩) p7) (l.rel.aw cd) d aE ⟨rfl,rfl⟩ dA (by rw[aM];omega) λwz Tz gz P _ _=>?_;try simp only[ac,fa_172_9]
 refine aC (A':=mW h.wb id b {k with steps:=k.steps+1,su:=A,mc:= .free a,point:=a.point,back:=a.back} hv p1 p2 p3 p4 p5 (some ⟨xb,0,none⟩) p7) gz.rel P aE ⟨rfl,rfl⟩ dA (by rw[aM];omega) λv T3 Q n _ _=>?_;have p:=(Gx.bV (S:=λq=>q=kb) l.rel cd).trans (gz.trans Q);have M3:McR v T3 o b h id p1 p2 p3 p4 p5 (some ⟨xb,0,none⟩) p7 (.free a):=q6 ⟨xb,rfl,K⟩ d p;have V:=p.off xb _ f (aA f d dz);have U3:=ku (k:={k with su:=A}) U2 d p;have L3:=L2.gx p;have H3:=H2.cL p d y;have E:=p.rel;have F3:=kO E n;have C:=fV.then J (fY d p)
 have now:∀(r:jo),aF c id m k=(m2,cI {k with steps:=k.steps+1,su:=A,mc:= .free a,point:=a.point,back:=a.back} r)->∀W,ad [] v W->aa prog 137 [ptr kb,.agg (oH r)] W λ_ w'=>P102_0 w' (uC T w o kb h c (aF c id m k).1 id (aF c id m k).2):=λr e W g=>by
  refine nc (k:={k with steps:=k.steps+1,su:=A,mc:= .free a,point:=a.point,back:=a.back}) (E.aw g) H3 y (U3.aw g) (L3.aw g) n r λu j g5 H5 K5=>?_;exact fin _ e u j (fV.then (fV.then C (Gx.bV E g)) g5) H5 K5
 have D:hp v xb=some (.cells (frA b a (ptr eb) (.pointer y1) (.pointer y2) (.pointer y3)) 243):=E.kW V;have G:ao (hp v xb) (0+11)=some (.bool a.done):=by rw[D];rfl
 have fc:ao (hp v xb) (0+10)=some (bS a.code):=by rw[D];rfl
 cases I:a.done with
 |false=>
  rw[I]at G;rw[bY (by rw[I];decide)]at z;simp only[ae,ac,tc,aB,F3.c6,G,zS];exact fin _ z v T3 C H3 ⟨b,sb,lb,hv,p1,p2,p3,p4,p5,_,p7,n,U3,L3,M3⟩
 |true=>
  rw[I]at G;rw[bX I]at z;simp only[ae,ac,fa_243_10,tc,aB,jy,F3.c6,G,fc,kN,zS];exact now _ z _ (ad.refl _ _)
theorem s_collect(N:gM c)(R:Rel w T)(H:dM T h c m)(s:o≠0)(M:eu c m)(hT:T kb=some (uu o h.wb id b k hv p1 p2 p3 p4 p5 p6 p7))(U:fX w T o b sb lb h c k.su)(L:SlK w T hv k.holds)(hs:0<=k.steps/\k.steps<=1000000000)(hb:k.busy=true)(hk:k.o.1=11){x:CoV}(hm:k.mc= .collect x)(X:McR w T o b h id p1 p2 p3 p4 p5 p6 p7 (.collect x))(O:rn k.su)(G:(fT k.su (fP (di m 2))).st.length<=100000)(OX:CoOk c x):
  aa prog 102 [ptr kb] w (uC T w o kb h c (aF c id m k).1 id (aF c id m k).2):=by
 obtain⟨xb,rfl,X⟩:=X;apply F102_ok;have F:=kO R hT;have fb:=F.busy;rw[hb]at fb;have ew:IntKind.i64.wrap (k.steps+1)=k.steps+1:=ap dy dy;rw[F102];simp only[ptr,ae,ac,bj,j0,aB,ag,fb,F.steps,aj,ew,zS];refine aC (A':=mW h.wb id b {k with steps:=k.steps+1} hv p1 p2 p3 p4 p5 p6 (some ⟨xb,0,none⟩)) R hT aE ⟨rfl,rfl⟩ dA (by rw[aM];omega) λw1 T1 p f _ _=>?_;have XX:McR w1 T1 o b h id p1 p2 p3 p4 p5 p6 (some ⟨xb,0,none⟩) (.collect x):=q6 ⟨xb,rfl,X⟩ hT p;obtain⟨_,eq,X1⟩:=XX;cases eq;have U1:=ku U hT p;have L1:=L.gx p;have S:=H.cL p hT s;have V:=p.rel;have W:=kO V f;have f0:ao (hp w1 kb) (0+6+0)=some (bS 11):=by have t:ao (hp w1 kb) (0+6+0)=some (bS k.o.1):=W.o0;rw[hk]at t;exact t
 simp only[ac,gm,fa_172_17,am,ag,ld_170,f0,W.c7,Int.reduceBEq,zS];have fin:∀(r:bI×jR),aF c id m k=r->∀q g,Gx (fV h T o) w T q g->dM g h c r.1->uw q g o kb h c id r.2->P102_0 q (uC T w o kb h c (aF c id m k).1 id (aF c id m k).2):=by
  rintro r rfl q g h1 h2 h3;apply L102_0_ok;exact⟨rfl,g,h1,h2,h3⟩
 refine(c_CoStep N V S s M U1 O G X1 OX).mono ?_;rintro _ w2 ⟨_,T2,u,Y,Z,X2⟩;have a:=u.off kb _ f (SM.un S f s (.inr dz));have L2:=L1.gx u;have I:Gx (fV h T o) w T w2 T2:=fV.then (fY hT p) (wkSM u)
 have v:aF c id m k=((ft c m k.su x).1,if(ft c m k.su x).2.2.done then cI {k with steps:=k.steps+1,su:=(ft c m k.su x).2.1,mc:= .collect (ft c m k.su x).2.2,point:=1} lV else{k with steps:=k.steps+1,su:=(ft c m k.su x).2.1,mc:= .collect (ft c m k.su x).2.2,point:=1}):=by
  rw[aF,bY (by rw[hb];decide)];simp only[hm]
 generalize hr:ft c m k.su x=r at*;obtain⟨m2,B,i⟩:=r;have J:=X2;obtain⟨ab,z,j,_⟩:=X2;simp only at v Y Z j;have F2:=kO u.rel a;try simp only[ac,eU]
 refine aC (A':=mW h.wb id b {k with steps:=k.steps+1,su:=B,mc:= .collect i,point:=1} hv p1 p2 p3 p4 p5 p6 (some ⟨xb,0,none⟩)) u.rel a aE ⟨rfl,rfl⟩ dA (by rw[aM];omega) λy T3 l n _ _=>?_;have M3:McR y T3 o b h id p1 p2 p3 p4 p5 p6 (some ⟨xb,0,none⟩) (.collect i):=q6 ⟨xb,rfl,J⟩ a l;have K:=l.off xb _ j (aA j a dz);have U3:=ku (k:={k with su:=B}) Z a l;have L3:=L2.gx l;have H3:=Y.cL l a s;have C:=l.rel;have F3:=kO C n;have A:=fV.then I (fY a l)
 have now:∀(r:jo),aF c id m k=(m2,cI {k with steps:=k.steps+1,su:=B,mc:= .collect i,point:=1} r)->∀P,ad [] y P->aa prog 137 [ptr kb,.agg (oH r)] P λ_ w'=>P102_0 w' (uC T w o kb h c (aF c id m k).1 id (aF c id m k).2):=λr e P d=>by
  refine nc (k:={k with steps:=k.steps+1,su:=B,mc:= .collect i,point:=1}) (C.aw d) H3 s (U3.aw d) (L3.aw d) n r λq g g5 H5 K5=>?_;exact fin _ e q g (fV.then (fV.then A (Gx.bV C d)) g5) H5 K5
 have Q:hp y xb=some (.cells (coA b i (ptr ab) (.pointer z)) 246):=C.kW K;have D:ao (hp y xb) (0+5)=some (.bool i.done):=by rw[Q];rfl
 cases E:i.done with
 |false=>
  rw[E]at D;rw[bY (by rw[E];decide)]at v;simp only[ae,ac,pO,aB,F3.c7,D,zS];exact fin _ v y T3 A H3 ⟨b,sb,lb,hv,p1,p2,p3,p4,p5,p6,_,n,U3,L3,M3⟩
 |true=>
  rw[E]at D;rw[bX E]at v;simp only[ae,ac,pO,aB,F3.c7,D,bd_rs_,zS];exact now _ v _ (ad.refl _ _)
end
section
variable{w w0 w1 w2 w':World}{T T1 T2 T':dN}{h:Hm}{c:cP}{m m':bI}{o o' b sb lb q kb wb q4 q5:Nat}{es es':List TypeId}{k:jR}{id:Nat}{hv:Value}{p1 p2 p3 p4 p5 p6 p7:Option Addr}
theorem gPin_p(k:jR)(s p:Int)(x:McV):(kt {k with steps:=s,mc:=x,point:=p}).1=(kt {k with steps:=s}).1:=by
 by_cases h:k.depth=15<;>simp[kt,h]
theorem gUnpin_p(k:jR)(s p:Int)(x:McV):(dP {k with steps:=s,mc:=x,point:=p}).1=(dP {k with steps:=s}).1:=by
 by_cases h:k.depth=0
 ·simp[dP,h]
 ·simp[dP,h]
theorem s_enter(N:gM c)(R:Rel w T)(H:dM T h c m)(e:o≠0)(M:eu c m)(hT:T kb=some (uu o h.wb id b k hv p1 p2 p3 p4 p5 p6 p7))(U:fX w T o b sb lb h c k.su)(L:SlK w T hv k.holds)(hs:0<=k.steps/\k.steps<=1000000000)(hb:k.busy=true)(V:k.o.1=3){x:EnV}(W:k.mc= .enter x)(X:McR w T o b h id p1 p2 p3 p4 p5 p6 p7 (.enter x))(C:id<cW c)(D:0<=k.depth/\k.depth<=15)(Y:x.done=false):
  aa prog 102 [ptr kb] w (uC T w o kb h c (aF c id m k).1 id (aF c id m k).2):=by
 obtain⟨xb,rfl,X⟩:=X;apply F102_ok;have F:=kO R hT;have fb:=F.busy;rw[hb]at fb;have Z:IntKind.i64.wrap (k.steps+1)=k.steps+1:=ap dy dy;rw[F102];simp only[ptr,ae,ac,bj,j0,aB,ag,fb,F.steps,aj,Z,zS];refine aC (A':=mW h.wb id b {k with steps:=k.steps+1} hv p1 p2 (some ⟨xb,0,none⟩) p4 p5 p6 p7) R hT aE ⟨rfl,rfl⟩ dA (by rw[aM];omega) λw1 T1 j f _ _=>?_;have XX:McR w1 T1 o b h id p1 p2 (some ⟨xb,0,none⟩) p4 p5 p6 p7 (.enter x):=q6 ⟨xb,rfl,X⟩ hT j;obtain⟨_,eq,X1⟩:=XX;cases eq;have U1:=ku U hT j;have L1:=L.gx j;have E:=H.cL j hT e;have K:=j.rel;have O:=kO K f;have f0:ao (hp w1 kb) (0+6+0)=some (bS 3):=by have t:ao (hp w1 kb) (0+6+0)=some (bS k.o.1):=O.o0;rw[V]at t;exact t
 simp only[ac,gm,fa_172_13,am,ag,ld_166,f0,O.c3,Int.reduceBEq,zS];have fin:∀(r:bI×jR),aF c id m k=r->∀l g,Gx (fV h T o) w T l g->dM g h c r.1->uw l g o kb h c id r.2->P102_0 l (uC T w o kb h c (aF c id m k).1 id (aF c id m k).2):=by
  rintro r rfl l g h1 h2 h3;apply L102_0_ok;exact⟨rfl,g,h1,h2,h3⟩
 refine(c_EnStep N K E e M X1 C Y).mono ?_;rintro _ w2 ⟨_,T2,i,v,y⟩;have a:=i.off kb _ f (SM.un E f e (.inr dz));have P:=U1.sm E i e (.inr dz);have Q:=L1.gx i;have n:Gx (fV h T o) w T w2 T2:=fV.then (fY hT j) (wkSM i)
 have z:aF c id m k=(if x.at'=0 then(m,{k with steps:=k.steps+1,mc:= .enter ⟨1,fP (di m 2),false⟩})else(m.set (fS c id) (pinW x.epoch),cI (kt {k with steps:=k.steps+1,point:=2}).2 (bL (kt {k with steps:=k.steps+1}).1))):=by
  rw[aF,bY (by rw[hb];decide)];simp only[W]
 have S:=kO i.rel a;have G:T2 xb=some (enN o h.eb id (my c id m x).2):=y;have I:hp w2 xb=some (.cells (enA h.eb id (my c id m x).2) 220):=i.rel.kW G;have A:ao (hp w2 xb) (0+4)=some (.bool (my c id m x).2.done):=by rw[I];rfl
 by_cases B:x.at'=0
 ·have es:my c id m x=(m,⟨1,fP (di m 2),false⟩):=by rw[my,bX B]
  rw[bX B]at z;rw[es]at A v y;simp only[ae,ac,rU,aB,S.c3,A,zS];exact fin _ z w2 T2 n v ⟨b,sb,lb,hv,p1,p2,_,p4,p5,p6,p7,a,P,Q,⟨xb,rfl,y⟩⟩
 ·have es:my c id m x=(m.set (fS c id) (pinW x.epoch),{x with done:=true}):=by rw[my,bY B]
  rw[bY B]at z;rw[es]at A v y;simp only[ae,ac,eU,rU,aB,S.c3,A,zS];refine aC (A':=mW h.wb id b {k with steps:=k.steps+1,point:=2} hv p1 p2 (some ⟨xb,0,none⟩) p4 p5 p6 p7) i.rel a aE ⟨rfl,rfl⟩ dA (by rw[aM];omega) λw3 T3 p d _ _=>?_;have U3:=ku P a p;have L3:=Q.gx p;have H3:=v.cL p a e;try simp only[ac,jZ]
  refine(c_gPin p.rel d D).mono ?_;rintro _ w4 ⟨u,rfl,T4,q,J⟩;have s:(kt {k with steps:=k.steps+1,point:=2}).2.su=k.su/\(kt {k with steps:=k.steps+1,point:=2}).2.holds=k.holds:=by unfold kt;split<;>exact⟨rfl,rfl⟩
  have U4:=ku U3 d q;have ep:(kt {k with steps:=k.steps+1,point:=2}).1=(kt {k with steps:=k.steps+1}).1:=gPin_p k _ _ k.mc;rw[ep];try simp only[jk,jm,ac,kN]
  refine nc (k:=(kt {k with steps:=k.steps+1,point:=2}).2) q.rel (H3.cL q d e) e (by rw[s.1];exact U4) (by rw[s.2];exact L3.gx q) J _ λl g g5 H5 K5=>?_;exact fin _ z l g (fV.then (fV.then (fV.then n (fY a p)) (fY d q)) g5) H5 K5
theorem s_leave(N:gM c)(R:Rel w T)(H:dM T h c m)(e:o≠0)(M:eu c m)(hT:T kb=some (uu o h.wb id b k hv p1 p2 p3 p4 p5 p6 p7))(U:fX w T o b sb lb h c k.su)(L:SlK w T hv k.holds)(hs:0<=k.steps/\k.steps<=1000000000)(hb:k.busy=true)(E:k.o.1=4){x:Bool}(G:k.mc= .leave x)(X:McR w T o b h id p1 p2 p3 p4 p5 p6 p7 (.leave x))(s:id<cW c)(v:0<=k.depth/\k.depth<=15)(I:x=false):
  aa prog 102 [ptr kb] w (uC T w o kb h c (aF c id m k).1 id (aF c id m k).2):=by
 obtain⟨xb,rfl,X⟩:=X;apply F102_ok;have F:=kO R hT;have fb:=F.busy;rw[hb]at fb;have J:IntKind.i64.wrap (k.steps+1)=k.steps+1:=ap dy dy;rw[F102];simp only[ptr,ae,ac,bj,j0,aB,ag,fb,F.steps,aj,J,zS];refine aC (A':=mW h.wb id b {k with steps:=k.steps+1} hv p1 p2 p3 (some ⟨xb,0,none⟩) p5 p6 p7) R hT aE ⟨rfl,rfl⟩ dA (by rw[aM];omega) λw1 T1 i f _ _=>?_;have K:McR w1 T1 o b h id p1 p2 p3 (some ⟨xb,0,none⟩) p5 p6 p7 (.leave x):=q6 ⟨xb,rfl,X⟩ hT i;obtain⟨_,O,P⟩:=K;cases O;have Q:=ku U hT i;have S:=L.gx i;have y:=H.cL i hT e;have C:=i.rel;have D:=kO C f;have f0:ao (hp w1 kb) (0+6+0)=some (bS 4):=by have t:ao (hp w1 kb) (0+6+0)=some (bS k.o.1):=D.o0;rw[E]at t;exact t
 simp only[ac,gm,fa_172_14,am,ag,ld_167,f0,D.c4,Int.reduceBEq,zS];have fin:∀(r:bI×jR),aF c id m k=r->∀j g,Gx (fV h T o) w T j g->dM g h c r.1->uw j g o kb h c id r.2->P102_0 j (uC T w o kb h c (aF c id m k).1 id (aF c id m k).2):=by
  rintro r rfl j g l V W;apply L102_0_ok;exact⟨rfl,g,l,V,W⟩
 subst I;refine(c_LvStep N C y e M P s).mono ?_;rintro _ w2 ⟨_,T2,n,Y,X2⟩;have a:=n.off kb _ f (SM.un y f e (.inr dz));have Z:=Q.sm y n e (.inr dz);have L2:=S.gx n;have z:Gx (fV h T o) w T w2 T2:=fV.then (fY hT i) (wkSM n)
 have e0:aF c id m k=(m.set (fS c id) 0,cI (dP {k with steps:=k.steps+1,point:=1}).2 (bL (dP {k with steps:=k.steps+1}).1)):=by
  rw[aF,bY (by rw[hb];decide)];simp only[G]
 try simp only[ac,eU]
 refine aC (A':=mW h.wb id b {k with steps:=k.steps+1,point:=1} hv p1 p2 p3 (some ⟨xb,0,none⟩) p5 p6 p7) n.rel a aE ⟨rfl,rfl⟩ dA (by rw[aM];omega) λw3 T3 p d _ _=>?_;have U3:=ku Z a p;have L3:=L2.gx p;have H3:=Y.cL p a e;try simp only[ac,jZ]
 refine(c_gUnpin p.rel d v).mono ?_;rintro _ w4 ⟨u,rfl,T4,q,A⟩;have B:(dP {k with steps:=k.steps+1,point:=1}).2.su=k.su:=by unfold dP;(repeat' split)<;>rfl
 have L4:SlK w4 T4 (if k.depth=1 then .slice none 0 0 else hv) (dP {k with steps:=k.steps+1,point:=1}).2.holds:=by
  by_cases l:k.depth=1
  ·rw[bX l,show(dP {k with steps:=k.steps+1,point:=1}).2.holds= []by simp[dP,l]];exact⟨none,0,rfl,cy _,Lo.nil _ _ _⟩
  ·rw[bY l,show(dP {k with steps:=k.steps+1,point:=1}).2.holds=k.holds by
    by_cases h0:k.depth=0
    ·simp[dP,h0]
    ·simp[dP,h0,show¬k.depth-1=0 by omega]]
   exact L3.gx q
 have U4:=ku U3 d q;have ep:(dP {k with steps:=k.steps+1,point:=1}).1=(dP {k with steps:=k.steps+1}).1:=gUnpin_p k _ _ k.mc;rw[ep];try simp only[jk,jm,ac,kN]
 refine nc (k:=(dP {k with steps:=k.steps+1,point:=1}).2) q.rel (H3.cL q d e) e (by rw[B];exact U4) L4 A _ λj g g5 H5 K5=>?_;exact fin _ e0 j g (fV.then (fV.then (fV.then z (fY a p)) (fY d q)) g5) H5 K5
theorem s_stats(N:gM c)(R:Rel w T)(H:dM T h c m)(f:o≠0)(M:eu c m)(hT:T kb=some (uu o h.wb id b k hv p1 p2 p3 p4 p5 p6 p7))(U:fX w T o b sb lb h c k.su)(L:SlK w T hv k.holds)(hs:0<=k.steps/\k.steps<=1000000000)(hb:k.busy=true)(D:k.o.1=12){x:LkV}(I:k.mc= .look x)(X:McR w T o b h id p1 p2 p3 p4 p5 p6 p7 (.look x))(J:LkOk c x)(K:k.holds.length<=100):
  aa prog 102 [ptr kb] w (uC T w o kb h c (aF c id m k).1 id (aF c id m k).2):=by
 obtain⟨xb,rfl,X⟩:=X;apply F102_ok;have F:=kO R hT;have fb:=F.busy;rw[hb]at fb;have O:IntKind.i64.wrap (k.steps+1)=k.steps+1:=ap dy dy;rw[F102];simp only[ptr,ae,ac,bj,j0,aB,ag,fb,F.steps,aj,O,zS];refine aC (A':=mW h.wb id b {k with steps:=k.steps+1} hv p1 p2 p3 p4 (some ⟨xb,0,none⟩) p6 p7) R hT aE ⟨rfl,rfl⟩ dA (by rw[aM];omega) λw1 T1 g d _ _=>?_;have P:McR w1 T1 o b h id p1 p2 p3 p4 (some ⟨xb,0,none⟩) p6 p7 (.look x):=q6 ⟨xb,rfl,X⟩ hT g;obtain⟨_,Q,S⟩:=P;cases Q;have V:=ku U hT g;have W:=L.gx g;have z:=H.cL g hT f;have E:=g.rel;have G:=kO E d;have f0:ao (hp w1 kb) (0+6+0)=some (bS 12):=by have t:ao (hp w1 kb) (0+6+0)=some (bS k.o.1):=G.o0;rw[D]at t;exact t
 simp only[ac,gm,pI,am,ag,ld_168,f0,G.c5,Int.reduceBEq,zS];have fin:∀(r:bI×jR),aF c id m k=r->∀i e,Gx (fV h T o) w T i e->dM e h c r.1->uw i e o kb h c id r.2->P102_0 i (uC T w o kb h c (aF c id m k).1 id (aF c id m k).2):=by
  rintro r rfl i e Y Z h3;apply L102_0_ok;exact⟨rfl,e,Y,Z,h3⟩
 refine(c_LkStep N E z f M S J).mono ?_;rintro _ w2 ⟨_,T2,l,H2,X2⟩;have a:=l.off kb _ d (SM.un z d f (.inr dz));have U2:=V.sm z l f (.inr dz);have L2:=W.gx l;have A:Gx (fV h T o) w T w2 T2:=fV.then (fY hT g) (wkSM l)
 have e0:aF c id m k=(m,cI {k with steps:=k.steps+1,point:=1} ((oD c m x).code,kY,(oD c m x).off,0)):=by
  rw[aF,bY (by rw[hb];decide)];simp only[I];rw[bY (by rw[D];decide)]
 try simp only[ac,eU]
 refine aC (A':=mW h.wb id b {k with steps:=k.steps+1,point:=1} hv p1 p2 p3 p4 (some ⟨xb,0,none⟩) p6 p7) l.rel a aE ⟨rfl,rfl⟩ dA (by rw[aM];omega) λs T3 j n _ _=>?_;generalize oD c m x=u at*;have p:T2 xb=some (lkN o h.wb u):=X2;have B:=j.off xb _ p (aA p a dz);have U3:=ku U2 a j;have L3:=L2.gx j;have H3:=H2.cL j a f;have v:=j.rel;have F3:=kO v n;have C:=fV.then A (fY a j)
 have q:hp s xb=some (.cells (lkA h.wb u) 226):=v.kW B;have fo:ao (hp s xb) (0+3)=some (bS u.off):=by rw[q];rfl
 have fc:ao (hp s xb) (0+4)=some (bS u.code):=by rw[q];rfl
 simp only[ae,ac,fa_226_3,rV,ag,jy,F3.c5,fo,fc,bd_rs02,zS];have y:=(ad.refl [] s).drew;refine nc (k:={k with steps:=k.steps+1,point:=1}) (v.aw y) H3 f (U3.aw y) (L3.aw y) n _ λi e g5 H5 K5=>?_;exact fin _ e0 i e (fV.then (fV.then C (Gx.bV v y)) g5) H5 K5
theorem s_hold(N:gM c)(R:Rel w T)(H:dM T h c m)(u:o≠0)(M:eu c m)(hT:T kb=some (uu o h.wb id b k hv p1 p2 p3 p4 p5 p6 p7))(U:fX w T o b sb lb h c k.su)(L:SlK w T hv k.holds)(hs:0<=k.steps/\k.steps<=1000000000)(hb:k.busy=true)(hk:k.o.1=5){x:LkV}(hm:k.mc= .look x)(X:McR w T o b h id p1 p2 p3 p4 p5 p6 p7 (.look x))(OX:LkOk c x)(S:k.holds.length<=100):
  aa prog 102 [ptr kb] w (uC T w o kb h c (aF c id m k).1 id (aF c id m k).2):=by
 obtain⟨xb,rfl,X⟩:=X;apply F102_ok;have F:=kO R hT;have fb:=F.busy;rw[hb]at fb;have ew:IntKind.i64.wrap (k.steps+1)=k.steps+1:=ap dy dy;rw[F102];simp only[ptr,ae,ac,bj,j0,aB,ag,fb,F.steps,aj,ew,zS];refine aC (A':=mW h.wb id b {k with steps:=k.steps+1} hv p1 p2 p3 p4 (some ⟨xb,0,none⟩) p6 p7) R hT aE ⟨rfl,rfl⟩ dA (by rw[aM];omega) λw1 T1 A v _ _=>?_;have XX:McR w1 T1 o b h id p1 p2 p3 p4 (some ⟨xb,0,none⟩) p6 p7 (.look x):=q6 ⟨xb,rfl,X⟩ hT A;obtain⟨_,eq,X1⟩:=XX;cases eq;have U1:=ku U hT A;have L1:=L.gx A;have V:=H.cL A hT u;have R1:=A.rel;have F1:=kO R1 v;have f0:ao (hp w1 kb) (0+6+0)=some (bS 5):=by have t:ao (hp w1 kb) (0+6+0)=some (bS k.o.1):=F1.o0;rw[hk]at t;exact t
 simp only[ac,gm,pI,am,ag,ld_168,f0,F1.c5,Int.reduceBEq,zS];have fin:∀(r:bI×jR),aF c id m k=r->∀B y,Gx (fV h T o) w T B y->dM y h c r.1->uw B y o kb h c id r.2->P102_0 B (uC T w o kb h c (aF c id m k).1 id (aF c id m k).2):=by
  rintro r rfl B y h1 h2 h3;apply L102_0_ok;exact⟨rfl,y,h1,h2,h3⟩
 refine(c_LkStep N R1 V u M X1 OX).mono ?_;rintro _ w2 ⟨_,T2,G,H2,X2⟩;have d:=G.off kb _ v (SM.un V v u (.inr dz));have U2:=U1.sm V G u (.inr dz);have L2:=L1.gx G;have W:Gx (fV h T o) w T w2 T2:=fV.then (fY hT A) (wkSM G)
 have O:aF c id m k=(m,cI (if(oD c m x).code=0 then kV {k with steps:=k.steps+1,point:=1} k.h.1 k.h.2.1 else{k with steps:=k.steps+1,point:=1}) (bL (oD c m x).code)):=by
  rw[aF,bY (by rw[hb];decide)];simp only[hm];rw[bX hk]
 try simp only[ac,eU]
 refine aC (A':=mW h.wb id b {k with steps:=k.steps+1,point:=1} hv p1 p2 p3 p4 (some ⟨xb,0,none⟩) p6 p7) G.rel d aE ⟨rfl,rfl⟩ dA (by rw[aM];omega) λi T3 C a _ _=>?_;generalize oD c m x=g at*;have I:T2 xb=some (lkN o h.wb g):=X2;have j:=C.off xb _ I (aA I d dz);have U3:=ku U2 d C;have L3:=L2.gx C;have H3:=H2.cL C d u;have D:=C.rel;have F3:=kO D a;have J:=fV.then W (fY d C)
 have K:hp i xb=some (.cells (lkA h.wb g) 226):=D.kW j;have fo:ao (hp i xb) (0+3)=some (bS g.off):=by rw[K];rfl
 have Y:ao (hp i xb) (0+4)=some (bS g.code):=by rw[K];rfl
 have e:∀(l:World) (p:dN) (E:jR) (f:Value),Gx (fV h T o) w T l p->dM p h c m->fX l p o b sb lb h c E.su->SlK l p f E.holds->p kb=some (uu o h.wb id b E f p1 p2 p3 p4 (some ⟨xb,0,none⟩) p6 p7)->p xb=some (lkN o h.wb g)->aF c id m k=(m,cI E (bL g.code))->
   P102_1 (ptr kb) l (uC T w o kb h c (aF c id m k).1 id (aF c id m k).2):=by
  intro l p E f q H4 U4 Z s z e4;apply L102_1_ok;have F4:=kO q.rel s;have a1:hp l xb=some (.cells (lkA h.wb g) 226):=q.rel.kW z;have a2:ao (hp l xb) (0+4)=some (bS g.code):=by rw[a1];rfl
  simp only[L102_1,ptr,ae,ac,pI,rV,jy,ld_168,F4.c5,a2,kN];refine nc (k:=E) q.rel H4 u U4 Z s _ λB y g5 H5 K5=>?_;exact fin _ e4 B y (fV.then q g5) H5 K5
 simp only[ptr]at e;by_cases P:g.code=0
 ·rw[P]at Y;rw[bX P]at O;have a3:ao (hp i kb) (0+12+0)=some (bS k.h.1):=by rw[show hp i kb=some (.cells (mW h.wb id b {k with steps:=k.steps+1,point:=1} hv p1 p2 p3 p4 (some ⟨xb,0,none⟩) p6 p7) 172)from D.kW a];rfl
  have a4:ao (hp i kb) (0+12+1)=some (bS k.h.2.1):=by rw[show hp i kb=some (.cells (mW h.wb id b {k with steps:=k.steps+1,point:=1} hv p1 p2 p3 p4 (some ⟨xb,0,none⟩) p6 p7) 172)from D.kW a];rfl
  simp only[ae,ac,jZ,fa_172_6,rV,bG,gR,ag,jy,F3.c5,Y,a3,a4,zS];have Q:=(ad.refl [] i).drew;refine(c_gHold (k:={k with steps:=k.steps+1,point:=1}) (D.aw Q) a (L3.aw Q) S k.h.1 k.h.2.1).mono ?_;rintro _ l ⟨⟨n,rfl⟩,p,f,q,Z,s⟩;have z:=q.off xb _ j (aA j a dz);have a5:(kV {k with steps:=k.steps+1,point:=1} k.h.1 k.h.2.1).su=k.su:=by unfold kV;split<;>rfl
  exact e l p _ f (fV.then (fV.then J (Gx.bV D Q)) (fY a q)) (H3.cL q a u) (by rw[a5];exact ku (U3.aw Q) a q) Z s z O
 ·have qc:(g.code==0)=false:=cN P;rw[bY P]at O;simp only[ae,ac,rV,jy,F3.c5,Y,qc,zS];exact e i T3 {k with steps:=k.steps+1,point:=1} hv J H3 U3 L3 a j O
end
section
variable{w w0 w1 w2 w':World}{T T1 T2 T':dN}{h:Hm}{c:cP}{m m':bI}{o o' b sb lb q kb wb q4 q5:Nat}{es es':List TypeId}{k:jR}{id:Nat}{hv:Value}{p1 p2 p3 p4 p5 p6 p7:Option Addr}
theorem s_touch(N:gM c)(R:Rel w T)(H:dM T h c m)(A:o≠0)(M:eu c m)(hT:T kb=some (uu o h.wb id b k hv p1 p2 p3 p4 p5 p6 p7))(U:fX w T o b sb lb h c k.su)(L:SlK w T hv k.holds)(hs:0<=k.steps/\k.steps<=1000000000)(hb:k.busy=true)(hk:6<=k.o.1/\k.o.1<=9)(hm:k.mc= .none)(hc:0<=k.h.2.2.1/\k.h.2.2.1<cC c)(hi:0<=k.h.2.2.2.1+k.o.2.2.2.1/\k.h.2.2.2.1+k.o.2.2.2.1<cK c):
  aa prog 102 [ptr kb] w (uC T w o kb h c (aF c id m k).1 id (aF c id m k).2):=by
 apply F102_ok;have F:=kO R hT;have fb:=F.busy;rw[hb]at fb;have ew:IntKind.i64.wrap (k.steps+1)=k.steps+1:=ap dy dy;rw[F102];simp only[ptr,ae,ac,bj,j0,aB,ag,fb,F.steps,aj,ew,zS];refine aC (A':=mW h.wb id b {k with steps:=k.steps+1} hv p1 p2 p3 p4 p5 p6 p7) R hT aE ⟨rfl,rfl⟩ dA (by rw[aM];omega) λw1 T1 B g _ _=>?_;have U1:=ku U hT B;have L1:=L.gx B;have v:=H.cL B hT A;have i:=B.rel;have a:hp w1 kb=some (.cells (mW h.wb id b {k with steps:=k.steps+1} hv p1 p2 p3 p4 p5 p6 p7) 172):=i.kW g;have f0:ao (hp w1 kb) (0+0)=some (ptr h.wb):=by rw[a];rfl
 have f6:ao (hp w1 kb) (0+6+0)=some (bS k.o.1):=by rw[a];rfl
 have f9:ao (hp w1 kb) (0+6+3)=some (bS k.o.2.2.2.1):=by rw[a];rfl
 have P:ao (hp w1 kb) (0+6+4)=some (bT k.o.2.2.2.2.1):=by rw[a];rfl
 have Q:ao (hp w1 kb) (0+6+5)=some (bT k.o.2.2.2.2.2):=by rw[a];rfl
 have S:ao (hp w1 kb) (0+12+2)=some (bS k.h.2.2.1):=by rw[a];rfl
 have V:ao (hp w1 kb) (0+12+3)=some (bS k.h.2.2.2.1):=by rw[a];rfl
 have fin:∀(r:bI×jR),aF c id m k=r->∀C x,Gx (fV h T o) w T C x->dM x h c r.1->uw C x o kb h c id r.2->P102_0 C (uC T w o kb h c (aF c id m k).1 id (aF c id m k).2):=by
  rintro r rfl C x h1 h2 h3;apply L102_0_ok;exact⟨rfl,x,h1,h2,h3⟩
 obtain⟨kc,j⟩:∃kc:Nat,k.h.2.2.1=kc:=⟨k.h.2.2.1.toNat,(du hc.1).symm⟩
 obtain⟨l,n⟩:∃l:Nat,k.h.2.2.2.1+k.o.2.2.2.1=l:=⟨(k.h.2.2.2.1+k.o.2.2.2.1).toNat,(du hi.1).symm⟩
 have W:kc<cC c:=by rw[j]at hc;omega
 have X:l<cK c:=by rw[n]at hi;omega
 have e0:aF c id m k=((iy m (aWd c kc l) k.o.1 k.o.2.2.2.2.1 k.o.2.2.2.2.2).1,cI {k with steps:=k.steps+1,point:=1} (iy m (aWd c kc l) k.o.1 k.o.2.2.2.2.1 k.o.2.2.2.2.2).2):=by
  rw[aF,bY (by rw[hb];decide)];simp only[hm,j,n,cq]
 have N3:=N.n3;have B3:=N.b3;have Y:IntKind.i64.wrap (k.h.2.2.2.1+k.o.2.2.2.1)=l:=by rw[n];exact ap dy dy
 have q1:(k.o.1==1)=false:=cN dy;have q2:(k.o.1==2)=false:=cN dy;have q3:(k.o.1==3)=false:=cN dy;have q4:(k.o.1==4)=false:=cN dy;have q5:(k.o.1==5)=false:=cN dy;have Z:(k.o.1==10)=false:=cN dy;have a1:(k.o.1==11)=false:=cN dy;have a2:(k.o.1==12)=false:=cN dy;have p:=fun{w1:World} {T1:dN} (i:Rel w1 T1) (v:dM T1 h c m)=>c_Touch N i v M W X k.o.1 k.o.2.2.2.2.1 k.o.2.2.2.2.2;generalize iy m (aWd c kc l) k.o.1 k.o.2.2.2.2.1 k.o.2.2.2.2.2=r at*;have d:∀(q:Nat) (f:World) (D:dN),Gx (SM h T1 o []) w1 T1 f D->dM D h c r.1->hp f q=some (.cells (oH r.2) 35)->D q=none->
   P102_2 (ptr kb) (ptr q) f (uC T w o kb h c (aF c id m k).1 id (aF c id m k).2):=by
  intro q f D E H4 I J;apply L102_2_ok;have e:=E.off kb _ g (SM.un v g A (.inr dz));have U4:=U1.sm v E A (.inr dz);have L4:=L1.gx E;have a3:Gx (fV h T o) w T f D:=fV.then (fY hT B) (wkSM E)
  simp only[L102_2,ptr,ae,ac,eU];refine aC (A':=mW h.wb id b {k with steps:=k.steps+1,point:=1} hv p1 p2 p3 p4 p5 p6 p7) E.rel e aE ⟨rfl,rfl⟩ dA (by rw[aM];omega) λC x y a4 _ _=>?_;have b5:=y.loc I J;rw[ld_rs b5.1,ac];refine nc (k:={k with steps:=k.steps+1,point:=1}) y.rel (H4.cL y e A) A (ku U4 e y) (L4.gx y) a4 _ λw6 T6 g6 H6 K6=>?_;exact fin _ e0 w6 T6 (fV.then (fV.then a3 (fY e y)) g6) H6 K6
 simp only[ptr]at d p;have cd:=(ad.refl [] w1).drew;have G:=i.aw cd;simp only[ptr,ac,ie,gm,fa_172_6,am,bm,fB,mB,fy,ib,ag,bx,gp,f0,f6,f9,P,Q,S,V,q1,q2,q3,q4,q5,Z,a1,a2,aj,Y,j,zS];refine⟨?_,?_⟩
 ·rw[sn];generalize s:World.alloc _ _=w2;have c2:ad [] w1 w2:=by rw[<- s];exact cd.alloc _
  have b2:hp w2 w1.drew.heap.size=some (.cells (oH lV) 35):=by rw[<- s,af,bX rfl];rfl
  have n2:T1 w1.drew.heap.size=none:=G.fresh (cy _);clear s;obtain⟨q,hq⟩:∃q,q=w1.drew.heap.size:=⟨_,rfl⟩
  rw[<- hq]at b2 n2⊢;have t:w1.heap.size<=q:=by rw[hq];exact cy _
  refine(p (i.aw c2) v).mono ?_;rintro _ z ⟨rfl,K,u,H3⟩;have O:=u.loc b2 n2;rw[st_rs O.1];refine d q _ K ((Gx.putL ((Gx.bV i c2).trans u) t O.2).mono λ_ h=> .inl h) H3 (aq (oG O.1) _ _) O.2
 ·refine(p G v).mono ?_;rintro _ z ⟨rfl,K,u,H3⟩;rw[sn];generalize s:World.alloc _ _=f;have c4:ad [] z f:=by rw[<- s];exact(ad.refl _ _).alloc _
  have I:hp f z.heap.size=some (.cells (oH lV) 35):=by rw[<- s,af,bX rfl];rfl
  have J:K z.heap.size=none:=u.rel.fresh (cy _);clear s;have t:w1.heap.size<=z.heap.size:=u.size;generalize z.heap.size=q at*;rw[st_rs I];refine d q _ K ((Gx.putL (((Gx.bV i cd).trans u).trans (Gx.bV u.rel c4)) t J).mono λ_ h=> .inl h) H3 (aq (oG I) _ _) J
theorem c_Step(N:gM c)(R:Rel w T)(H:dM T h c m)(e:o≠0)(K:uw w T o kb h c id k)(M:eu c m)(g:id<cW c)(d:WkOk c m k):
  aa prog 102 [ptr kb] w λv w'=>v= .bool k.busy/\∃T',Gx (fV h T o) w T w' T'/\dM T' h c (aF c id m k).1/\uw w' T' o kb h c id (aF c id m k).2:=by
 have j:=K;obtain⟨b,sb,lb,hv,p1,p2,p3,p4,p5,p6,p7,hT,U,L,X⟩:=K;cases hb:k.busy with
 |false=>
  apply F102_ok;have fb:=(kO R hT).busy;rw[hb]at fb;simp only[F102,ptr,ae,ac,bj,aB,fb,zS];rw[aF,bX hb];exact⟨by first|rfl|trivial,T,Gx.refl R,H,j⟩
 |true=>
 have a:=d.mc hb;have i:aa prog 102 [ptr kb] w (uC T w o kb h c (aF c id m k).1 id (aF c id m k).2):=by
  generalize f:k.mc=x at X a;cases x with
  |create x=>exact s_create N R H e M hT U L d.steps hb a.1 f X a.2
  |alloc x=>exact s_alloc N R H e M hT U L d.steps hb a.1 f X d.su d.room a.2
  |enter x=>exact s_enter N R H e M hT U L d.steps hb a.1 f X g d.depth a.2
  |leave x=>exact s_leave N R H e M hT U L d.steps hb a.1 f X g d.depth a.2
  |look x=>
   rcases a.1 with hk|hk
   ·exact s_hold N R H e M hT U L d.steps hb hk f X a.2.1 d.holds
   ·exact s_stats N R H e M hT U L d.steps hb hk f X a.2.1 d.holds
  |free x=>exact s_free N R H e M hT U L d.steps hb a.1 f X d.su a.2
  |collect x=>exact s_collect N R H e M hT U L d.steps hb a.1 f X d.su a.2.2 a.2.1
  |none=>exact s_touch N R H e M hT U L d.steps hb a.1 f a.2.1 a.2.2
 exact i.mono λv w' l=>l
end
section
variable{w w0 w1 w2 w':World}{T T1 T2 T':dN}{h:Hm}{c:cP}{m m':bI}{o o' b sb lb q kb wb q4 q5:Nat}{es es':List TypeId}{k:jR}{id:Nat}{hv:Value}{p1 p2 p3 p4 p5 p6 p7:Option Addr}
theorem fi_rt(r:RtV):ai prog (Instr.field 231 (.agg (lZ r)) 0)=some (bS r.gen):=pr_field1 (c:=lZ r) (off:=0) (z:=1) dA rfl
theorem c_Root(N:gM c)(R:Rel w T)(H:dM T h c m)(M:eu c m){i:Nat}(y:i<cS c):aa prog 205 [ptr h.wb,bS i] w λv w'=>v= .agg (lZ (bd (di m (iS c i))))/\ad [] w w':=by
 apply F205_ok;rw[F205];dsimp only;rw[ue];generalize o:World.alloc _ _=w1;have z:ad [] w w1:=by rw[<- o];exact(ad.refl _ _).alloc _
 have A:hp w1 w.heap.size=some (.cells (lZ ⟨0,0,0,0⟩) 231):=by rw[<- o,af,bX rfl];rfl
 clear o;obtain⟨q,I⟩:∃q,q=w.heap.size:=⟨_,rfl⟩
 rw[<- I]at A⊢;have p:w.heap.size<=q:=dy;have r:=R.aw z;have B:=M.rt y;have C:=(ad.refl [] w1).drew;have fs:∀{w2:World},ad [] w1 w2->∃g k,ao (hp w2 h.wb) (0+6)=some (ptr h.mb)/\ao (hp w2 h.mb) (0+0)=some (.slice (some ⟨g,0,none⟩) m.length k)/\ai prog (Instr.indexAt 139 (.slice (some ⟨g,0,none⟩) m.length k) (bS (iS c i)))=some (.pointer (some ⟨g,iS c i,none⟩))/\ao (hp w2 g) (iS c i)=some (bT (di m (iS c i))):=λa=>by
  have D:=r.aw a;obtain⟨g,k,n,S,hb,U,J,_,_,d⟩:=H.mem D dy;exact⟨g,k,(m9 D H).1,by rw[hb];rfl,(d _ B).1,(d _ B).2⟩
 obtain⟨g,k,E,b,K,_⟩:=fs (w2:=w1) (ad.refl _ _);have f:∀{w2:World},ad [] w1 w2->ao (hp w2 h.wb) (0+6)=some (ptr h.mb)/\ao (hp w2 h.mb) (0+0)=some (.slice (some ⟨g,0,none⟩) m.length k)/\ao (hp w2 g) (iS c i)=some (bT (di m (iS c i))):=fun{w2} a=>by
  obtain⟨V,k2,L,F,W,O⟩:=fs a;obtain⟨n,hb⟩:∃cs,hp w1 h.mb=some cs:=⟨_,(H.mem r dy).choose_spec.choose_spec.choose_spec.2.1⟩
  have s:=a.at hb (by simp);have e:ao (hp w2 h.mb) (0+0)=ao (hp w1 h.mb) (0+0):=by rw[s,hb]
  rw[e,b]at F;cases F;exact⟨L,by rw[e,b],O⟩
 simp only[ptr]at E b f;have b:ao (hp w1 h.mb) (0+0)=some (.slice (some ⟨g,0,none⟩) m.length k):=b;simp only[ptr,ae,ac,zS,bR,fq,ke,bD,jc,E,b,m8 (r.aw C) H];refine⟨⟨?_,?_⟩,?_⟩;all_goals
  refine(lQ N y).mono ?_;rintro _ w2 ⟨rfl,a⟩;have j:=C.trans a;obtain⟨t,x,P⟩:=f j;simp only[ae,ac,ke,jc,bx,t,x,K,P];refine(jb (iF M.u _)).mono ?_;rintro _ X ⟨rfl,Q⟩;have l:=j.trans Q;have G:=l.at A (by simp);rw[st_rt G rfl,sO (aq (oG G) _ _),ac];exact⟨rfl,(z.trans l).put (.inr p) _ _⟩
def PtOk(c:cP)(k:jR):McV->Prop
 | .create x=>0<=x.slot/\x.slot<cS c
 |_=>True
theorem c_Will(N:gM c)(R:Rel w T)(H:dM T h c m)(M:eu c m)(K:uw w T o kb h c id k)(OK:k.busy=true->McOk c m k k.mc)(Q:k.busy=true->k.point≠0->PtOk c k k.mc):
  aa prog 154 [ptr kb] w λv w'=>∃u,v= .tuple #[.agg (oH (jU c m k)),.bool u]/\ad [] w w':=by
 apply F154_ok;rw[F154];dsimp only;rw[sn];generalize S:World.alloc _ _=w1;have V:ad [] w w1:=by rw[<- S];exact(ad.refl _ _).alloc _
 have W:hp w1 w.heap.size=some (.cells (oH lV) 35):=by rw[<- S,af,bX rfl];rfl
 clear S;obtain⟨q,hq⟩:∃q,q=w.heap.size:=⟨_,rfl⟩
 rw[<- hq]at W⊢;have p:w.heap.size<=q:=dy;have s:=R.aw V;obtain⟨b,sb,lb,hv,p1,p2,p3,p4,p5,p6,p7,hT,U,L,X⟩:=K;have a:hp w1 kb=some (.cells (mW h.wb id b k hv p1 p2 p3 p4 p5 p6 p7) 172):=s.kW hT;have t:∀{w2:World},ad [] w1 w2->hp w2 kb=some (.cells (mW h.wb id b k hv p1 p2 p3 p4 p5 p6 p7) 172):=λe=>e.at a (by simp);have fw:ao (hp w1 kb) (0+0)=some (ptr h.wb):=by rw[a];rfl
 have fb:ao (hp w1 kb) (0+5)=some (.bool k.busy):=by rw[a];rfl
 have g:ao (hp w1 kb) (0+6+0)=some (bS k.o.1):=by rw[a];rfl
 have A:ao (hp w1 kb) (0+18)=some (bS k.point):=by rw[a];rfl
 have fl:∀{w2:World},ad [] w1 w2->fR prog 35 (.pointer (some ⟨kb,0+20,none⟩)) w2=some (.agg (oH k.last)):=λe=>by rw[ld_35,t e];rfl
 have j:=(ad.refl [] w1).drew;have fin:∀(w2:World) (r:jo) (u:Bool),ad [] w1 w2->jU c m k=r->dE prog (Instr.storeAt 35 (bU q) (.agg (oH r))) w2 λwz=>nP (fR prog 35 (bU q) wz) λY=>∃u',Value.tuple #[Y,.bool u]= .tuple #[.agg (oH (jU c m k)),.bool u']/\ad [] w wz:=by
  rintro w2 r u e rfl;have B:=e.at W (by simp);rw[st_rs B,ld_rs (aq (oG B) _ _),ac];exact⟨u,rfl,(V.trans e).put (.inr p) _ _⟩
 cases hb:k.busy with
 |false=>
  rw[hb]at fb;have d:jU c m k=k.last:=by rw[jU,bX hb]
  simp only[ptr,ae,ac,zS,bj,gm,fa_172_10,am,aB,ag,fb,g,fl j];refine⟨?_,?_⟩
  ·exact fin _ _ _ j d
  ·have B:=j.at W (by simp);rw[st_rs B];have cz:ad [] w (put w1.drew q (oH k.last) 35):=(V.trans j).put (.inr p) _ _;have kz:ao (hp (put w1.drew q (oH k.last) 35) kb) (0+6+0)=some (bS k.o.1):=by rw[show hp (put w1.drew q (oH k.last) 35) kb=_ from(R.aw cz).kW hT];rfl
   simp only[ac,zS,kz,ld_rs (aq (oG B) _ _)];exact⟨_,by rw[d],cz⟩
 |true=>
 rw[hb]at fb;have C:=OK hb;have n0:¬k.busy=false:=by rw[hb];decide
 by_cases D:k.point=0
 ·have d:jU c m k=lV:=by rw[jU,bY n0,bX D]
  have n:(k.point==0)=true:=by rw[D];rfl
  simp only[ptr,ae,ac,zS,bj,eU,aB,ag,fb,A,n,bd_rs_];exact fin _ _ _ (ad.refl _ _) d
 ·have d:jU c m k=(match k.mc with
   | .create x=>(0,(x.slot,bF (bd (di m (iS c x.slot.toNat))).gen,0,0,0),0,0)
   | .alloc x=>(x.code,x.h,0,0)
   | .free x=>bL x.code
   |_=>lV):=by rw[jU,bY n0,bY D];rfl
  have n:(k.point==0)=false:=cN D;have Z:=Q hb D;generalize hm:k.mc=x at X C Z d;have E:∀(O:k.o.1≠1/\k.o.1≠2/\k.o.1≠10) (P:jU c m k=lV),jU c m k=lV/\(k.o.1==1)=false/\(k.o.1==2)=false/\(k.o.1==10)=false:=λO P=>⟨P,cN O.1,cN O.2.1,cN O.2.2⟩
  cases x with
  |create x=>
   obtain⟨xb,rfl,X⟩:=X;obtain⟨y,F,_⟩:=X;rw[C.1]at g;obtain⟨G,l⟩:∃G:Nat,x.slot=G:=⟨x.slot.toNat,(du Z.1).symm⟩
   have a1:G<cS c:=by have:=Z.2;rw[l]at this;omega
   have I:∀{w2:World},ad [] w1 w2->ao (hp w2 kb) (0+28)=some (ptr xb)/\ao (hp w2 xb) (0+5)=some (bS G):=λe=>by
    rw[t e,show hp _ xb=_ from(s.aw e).kW F];exact⟨rfl,by rw[<- l];rfl⟩
   obtain⟨f28,s1⟩:=I (ad.refl _ _);simp only[l,cq]at d;have rb:=rt_bd (iF M.u (iS c G));simp only[ptr,ae,ac,zS,ie,bj,gm,eU,pH,am,nW,aB,ag,gp,ld_164,fw,fb,g,A,n,f28,s1,Int.reduceBEq];repeat' apply And.intro
   all_goals
    refine(c_Root N (s.aw j) H M a1).mono ?_;rintro _ w2 ⟨rfl,e⟩;have J:=j.trans e;obtain⟨i,s2⟩:=I J;simp only[ptr,ae,ac,nW,ag,i,s2,fi_rt];refine(c_rLater _ rb.1.2 w2 rb.1.1).step ?_;simp only[ptr,ae,ac,nW,ag,i,s2,bd_hn2,bd_rsH];exact fin _ _ _ J d
  |alloc x=>
   simp only at d;obtain⟨xb,rfl,X⟩:=X;obtain⟨y,z,F,_⟩:=X;rw[C.1]at g;have f29:ao (hp w1 kb) (0+29)=some (ptr xb):=by rw[a];rfl
   have f:hp w1 xb=some (.cells (ry b x (.pointer y) (.pointer z)) 237):=s.kW F;have fc:ao (hp w1 xb) (0+13)=some (bS x.code):=by rw[f];rfl
   have fh:fR prog 32 (.pointer (some ⟨xb,0+14,none⟩)) w1.drew=some (.agg (rq x.h)):=by rw[ld_32,show hp w1.drew xb=_ from f];rfl
   simp only[ptr,ae,ac,zS,bj,gm,eU,fa_172_12,am,ta,fa_237_14,aB,ag,jy,ld_165,fb,g,A,n,f29,fc,fh,Int.reduceBEq,bd_rs01];exact fin _ _ _ j d
  |free x=>
   simp only at d;obtain⟨xb,rfl,X⟩:=X;obtain⟨eb,y1,y2,y3,F,_⟩:=X;rw[C.1]at g;have a2:ao (hp w1 kb) (0+33)=some (ptr xb):=by rw[a];rfl
   have f:hp w1 xb=some (.cells (frA b x (ptr eb) (.pointer y1) (.pointer y2) (.pointer y3)) 243):=s.kW F;have fc:ao (hp w1 xb) (0+10)=some (bS x.code):=by rw[f];rfl
   simp only[ptr,ae,ac,zS,bj,gm,eU,fa_172_16,am,fa_243_10,aB,ag,jy,ld_169,fb,g,A,n,a2,fc,Int.reduceBEq,kN];exact fin _ _ _ (ad.refl _ _) d
  |_=>
   simp only at d;obtain⟨P,q1,q2,a3⟩:=E (by simp only[McOk]at C;omega) d;simp only[ptr,ae,ac,zS,bj,gm,eU,am,aB,ag,fb,g,A,n,q1,q2,a3,bd_rs_];exact fin _ _ _ (ad.refl _ _) P
end
section
variable{w w0 w1 w2 w':World}{T T1 T2 T':dN}{h:Hm}{c:cP}{m m':bI}{o o' b sb lb q kb wb:Nat}
theorem c_r5New(R:Rel w T)(n:Nat)(y:n<=10000000):aa prog 90 [bS n] w λv w'=>∃mb T',v=ptr mb/\Gx (λ_=>False) w T w' T'/\w.heap.size<=mb/\T' mb=some (memN (List.replicate n 0) 0):=by
 apply F90_ok;obtain⟨s,b,d,a,e⟩:=inf_33;simp only[F90,jJ (P:=prog) (kl:= .i64) (kc:= .i64) (n:=n) Tryz.underlying139 b d (by rw[a];omega) (by rw[e];omega) dy];have f:madeCells (Value.int .u64 0).cells (n*s.size)=(fE (List.replicate n 0)).toArray:=by
  apply Array.toList_inj.1;rw[a,dm];have:=toList_madeCells_one (Value.int .u64 0) n;rw[fE,List.map_replicate];exact this
 rw[f];have t:(w.alloc (.cells (fE (List.replicate n 0)).toArray 33)).ownsRow w.heap.size 33 1 (.slice (some ⟨w.heap.size,0,none⟩) n n) n (fE (List.replicate n 0)):=
  ⟨by simp[fE],.inr ⟨w.heap.size,n,_,rfl,cy _,heap_alloc_new w _,cy _,by unfold maxLen;omega,by simp[fE],by simp[fE]⟩⟩
 generalize i:w.alloc (.cells (fE (List.replicate n 0)).toArray 33)=l at*;have q:ad [] w l:=by rw[<- i];exact(ad.refl _ _).alloc _
 have m:ai prog (Instr.build 204 #[(0,.slice (some ⟨w.heap.size,0,none⟩) n n)])=some (.agg #[.slice (some ⟨w.heap.size,0,none⟩) n n,bS 0]):=bd_204_0;simp only[m,ak,au,ac];obtain⟨T',o,g⟩:=Gx.newg (S:=λ_=>False) (w:=w) (w1:=l) (k:=0) (cs:= [.gr 33 1 n (fE (List.replicate n 0)),.v (bS 0)]) (vs:= [.slice (some ⟨w.heap.size,0,none⟩) n n,bS 0]) R q (cy _) t 0 204 rfl rfl rfl (λj c u z r x=>by
  have p:=(ce.1 r).1;have:j=1:=by simp at p;omega
  subst this;cases r;cases x;rfl)
 refine⟨l.heap.size,T',rfl,g,q.size,?_⟩;rw[o,memN,dt]
def rj(s:iP)(m:bI)(i:Nat):bI:=(List.range i).foldl (λm i=>m.set (s.ee+i) (if i+1=s.n then 0 else(((i+2)%(s.n+1):Nat):Int))) m
theorem qS(s:iP)(m:bI)(i:Nat):rj s m (i+1)=(rj s m i).set (s.ee+i) (if i+1=s.n then 0 else(((i+2)%(s.n+1):Nat):Int)):=by
 rw[rj,List.range_succ,List.foldl_append];rfl
theorem fillN_len(s:iP)(m:bI):∀i,(rj s m i).length=m.length
 |0=>rfl
 |i+1=>by rw[qS,cE,fillN_len s m i]
def memS(h:Hm)(q:Nat):Prop:=q=h.mb
theorem l_fill{s:iP}{b:Nat}(sT:∀{w:World} {T:dN} {m:bI},Rel w T->dM T h c m->hp w b=some (.cells (oL h.mb s).toArray 156))(d:bI)(hl:s.ee+s.n<=d.length)(hn:s.n<=100000)(z:s.ee<=100000000):∀(f i:Nat),i+f=s.n->∀{w:World} {T:dN},Rel w T->dM T h c (rj s d i)->
  P95_0 (ptr b) (bS i) w λv w'=>v= .tuple #[]/\∃T',Gx (memS h) w T w' T'/\dM T' h c (rj s d s.n)
 |f,i,A,w,T,R,H=>by
  apply L95_0_ok;have hb:=sT R H;have f0:ao (hp w b) (0+0)=some (ptr h.mb):=by rw[hb];rfl
  have f2:ao (hp w b) (0+2)=some (bS s.ee):=by rw[hb];rfl
  have O:ao (hp w b) (0+3)=some (bS s.n):=by rw[hb];rfl
  rcases cZ i s.n with hi|hi
  ·match f,A with
   |0,A=>omega
   |f+1,A=>
   have q1:(i:Int)<s.n:=dy;have P:=fillN_len s d i;have Q:=(ad.refl [] w).drew;have S:=R.aw Q;obtain⟨g,k,n,B,C,hg,a2,ho,NN,D⟩:=H.mem S dy;obtain⟨q2,q3⟩:=D (s.ee+i) dy;have E:ao (hp w h.mb) (0+0)=some (.slice (some ⟨g,0,none⟩) (rj s d i).length k):=by rw[show hp w h.mb=_ from C];rfl
   have U:IntKind.i64.wrap ((s.ee:Int)+i)=((s.ee+i:Nat):Int):=by rw[ap dy dy];omega
   have e2:IntKind.i64.wrap ((i:Int)+2)=((i+2:Nat):Int):=by rw[ap dy dy];omega
   have e3:IntKind.i64.wrap ((s.n:Int)+1)=((s.n+1:Nat):Int):=by rw[ap dy dy];omega
   have e5:IntKind.i64.wrap ((i:Int)+1)=((i+1:Nat):Int):=by rw[ap dy dy];omega
   have V:(i+2)%(s.n+1)<s.n+1:=Nat.mod_lt _ dy;have W:IntKind.i64.wrap ((s.n:Int)-1)=(s.n:Int)-1:=ap dy dy;have e7:IntKind.u64.wrap (Int.tmod ((i+2:Nat):Int) ((s.n+1:Nat):Int))=(((i+2)%(s.n+1):Nat):Int):=by rw[Int.tmod_eq_emod_of_nonneg dy,<-Int.natCast_emod,oR dy dy]
   have F:((s.n+1:Nat):Int)≠0:=dy;simp only[L95_0,ptr,ae,ac,lB,fa_156_2,pF,ke,ag,bD,jc,f0,f2,O,q1,E,U,e2,e3,e7,q2,aU,aj,kF F,lG,decide_true,zS];obtain⟨ok,T1,t,u⟩:=H.set S B NN (a:=s.ee+i) dy (((i+2)%(s.n+1):Nat):Int);rw[og rfl rfl ok];generalize Ev.put _ _ _ _=w1 at*;have l:Gx (memS h) w T w1 T1:=(Gx.bV R Q).trans t;have e:=sT t.rel u;have X:ao (hp w1 b) (0+0)=some (ptr h.mb):=by rw[e];rfl
   have k2:ao (hp w1 b) (0+2)=some (bS s.ee):=by rw[e];rfl
   have Y:ao (hp w1 b) (0+3)=some (bS s.n):=by rw[e];rfl
   have j:∀(w2:World) (T2:dN),Gx (memS h) w T w2 T2->dM T2 h c (rj s d (i+1))->P95_1 (ptr b) (bS i) w2 λv w'=>v= .tuple #[]/\∃T',Gx (memS h) w T w' T'/\dM T' h c (rj s d s.n):=λw2 T2 x y=>by
    apply L95_1_ok;simp only[L95_1,aj,e5,ac];refine Part.mono (l_fill sT d hl hn z f (i+1) dy x.rel y) λv w' hq=>?_;obtain⟨h1,T',h2,h3⟩:=hq;exact⟨h1,T',x.trans h2,h3⟩
   simp only[ptr]at j X;by_cases Z:i+1=s.n
   ·have G:((i:Int)==(s.n:Int)-1)=true:=by rw[show(i:Int)=(s.n:Int)-1 by omega];exact beq_self_eq_true _
    have o:=(ad.refl [] w1).drew;have p:=t.rel.aw o;obtain⟨g',k',n',I,q,a3,a1,a4,J,r⟩:=u.mem p (by rw[cE];omega);obtain⟨K,a5⟩:=r (s.ee+i) (by rw[cE];omega);have L:ao (hp w1 h.mb) (0+0)=some (.slice (some ⟨g',0,none⟩) ((rj s d i).set (s.ee+i) (((i+2)%(s.n+1):Nat):Int)).length k'):=by rw[show hp w1 h.mb=_ from q];rfl
    simp only[ae,ac,ke,jc,X,k2,Y,L,K,U,W,G,aZ,aj,zS];obtain⟨M,T2,x,y⟩:=u.set p I J (a:=s.ee+i) (by rw[cE];omega) 0;rw[og rfl rfl M];rw[List.set_set]at y;refine j _ T2 (l.trans ((Gx.bV t.rel o).trans x)) ?_;rw[qS,bX Z];exact y
   ·have G:((i:Int)==(s.n:Int)-1)=false:=cN dy;simp only[ac,Y,W,G,aZ,zS];refine j _ T1 l ?_;rw[qS,bY Z];exact u
  ·have hz:¬(i:Int)<s.n:=dy;have ei:i=s.n:=dy;simp only[L95_0,ptr,ae,ac,pF,ag,O,hz,aU,decide_false,zS];subst ei;exact⟨by first|rfl|trivial,T,Gx.refl R,H⟩
theorem fillV_eq(s:iP)(m:bI):fillV s m=(List.range s.n).foldl (λm i=>m.set (s.ee+i) (if i+1=s.n then 0 else(((i+2)%(s.n+1):Nat):Int))) (m.set s.head 1):=rfl
theorem c_Fill{s:iP}(sT:∀{T:dN} {m:bI},dM T h c m->T b=some (.st 0 156 ((oL h.mb s).map fQ.v)))(R:Rel w T)(H:dM T h c m)(G:s.ee+s.n<=m.length)(t:s.n<=100000)(e:s.ee<=100000000)(I:s.head<m.length):
  aa prog 95 [ptr b] w λv w'=>v= .tuple #[]/\∃T',Gx (memS h) w T w' T'/\dM T' h c (fillV s m):=by
 apply F95_ok;have f:ai prog (Instr.build 209 #[(0,bS 0)])=some (.agg (hdA 0 0)):=bd_209_0;simp only[F95,f,ac];refine(c_PutHead 0 0).mono ?_;rintro _ w1 ⟨u,rfl,p⟩;have q:=p.trans (ad.refl [] w1).drew;have r:=R.aw q;have hb:hp w1 b=some (.cells (oL h.mb s).toArray 156):=(R.aw p).kW (sT H);have f0:ao (hp w1 b) (0+0)=some (ptr h.mb):=by rw[hb];rfl
 have f1:ao (hp w1 b) (0+1)=some (bS s.head):=by rw[hb];rfl
 obtain⟨g,k,n,i,j,J,x,K,y,l⟩:=H.mem r dy;obtain⟨z,L⟩:=l s.head dy;have o:ao (hp w1 h.mb) (0+0)=some (.slice (some ⟨g,0,none⟩) m.length k):=by rw[show hp w1 h.mb=_ from j];rfl
 simp only[ptr,jk,jm,ae,ac,lB,rQ,ke,ag,bD,jc,f0,f1,o,z,zS];obtain⟨ok,T2,A,B⟩:=H.set r i y (a:=s.head) dy 1;rw[show putHd 0 0=1 from rfl,og rfl rfl ok];generalize Ev.put _ _ _ _=w2 at*;have d:Gx (memS h) w T w2 T2:=(Gx.bV R q).trans A;refine Part.mono (l_fill (s:=s) (λR H=>R.kW (sT H)) (m.set s.head 1) (by rw[cE];omega) t e s.n 0 dy d.rel B) λv w' C=>?_;obtain⟨D,T',E,F⟩:=C;exact⟨D,T',d.trans E,F⟩
end
section
variable{w w0 w1 w2 w':World}{T T0 T1 T2 T':dN}{h:Hm}{c:cP}{m m':bI}{o o' b sb lb q kb wb mb:Nat}{v2 v3 v4:Value}
def wbA(c:cP)(mb:Nat)(v2 v3 v4:Value):Array Value:=(dK c++ [ptr mb,v2,v3,v4]).toArray
theorem wbA_size(c:cP)(mb:Nat)(v2 v3 v4:Value):(wbA c mb v2 v3 v4).size=10:=rfl
structure NwS(w0:World)(T0:dN)(c:cP)(mb wb q:Nat)(v2 v3 v4:Value)(w:World)(T:dN):Prop where
 g:Gx (λ_=>False) w0 T0 w T
 m:T mb=some (memN (List.replicate (kX c) 0) 0)
 nd:T wb=some (.st 0 153 ((wbA c mb v2 v3 v4).toList.map fQ.v))
 nw:w0.heap.size<=wb/\w0.heap.size<=mb
 q:hp w q=some (.cells (dK c).toArray 25)/\T q=none
theorem NwS.aw(S:NwS w0 T0 c mb wb q v2 v3 v4 w T)(a:ad [] w w'):NwS w0 T0 c mb wb q v2 v3 v4 w' T:=
 ⟨S.g.trans (Gx.bV S.g.rel a),S.m,S.nd,S.nw,a.at S.q.1 (by simp),S.q.2⟩
theorem NwS.box(S:NwS w0 T0 c mb wb q v2 v3 v4 w T)(e:TypeId)(vs:List Value):NwS w0 T0 c mb wb q v2 v3 v4 (w.alloc (.cells vs.toArray e)) (iz T w.heap.size (.st 0 e (vs.map fQ.v)))  :=by
 have g:=Gx.p8 (S:=λ_=>False) S.g.rel 0 e vs;exact⟨S.g.trans g,g.off _ _ S.m (λh=>h),g.off _ _ S.nd (λh=>h),S.nw,g.loc S.q.1 S.q.2⟩
theorem NwS.set{u2 u3 u4:Value}(S:NwS w0 T0 c mb wb q v2 v3 v4 w T)(b:Rel w0 T0)(g:Gx (λk=>k=wb) w T w' T')(hT:T' wb=some (.st 0 153 ((wbA c mb u2 u3 u4).toList.map fQ.v))):NwS w0 T0 c mb wb q u2 u3 u4 w' T':=
 ⟨S.g.then g λk e a d=>(by rw[d,b.fresh S.nw.1]at a;cases a),g.off _ _ S.m (aA S.m S.nd dz),hT,S.nw,g.loc S.q.1 S.q.2⟩
theorem c_r11New(N:gM c)(R:Rel w T):aa prog 55 [.agg (dK c).toArray] w λv w'=>∃h T',v=ptr h.wb/\Gx (λ_=>False) w T w' T'/\dM T' h c (qQ c):=by
 apply F55_ok;rw[F55];have b2:=N.b2;have b4:=N.b4;have b1:=N.b1;have P:=lenM_le N;simp only[ak,au];generalize Q:World.alloc _ _=w1;have U:ad [] w w1:=by rw[<- Q];exact(ad.refl _ _).alloc _
 have q1:hp w1 w.heap.size=some (.cells (dK c).toArray 25):=by rw[<- Q,af,bX rfl]
 have n1:T w.heap.size=none:=R.fresh (cy _);clear Q;generalize w.heap.size=q at*;simp only[fW q1,ac];refine(c_Len1 N).mono ?_;rintro _ w2 ⟨rfl,K⟩;refine(c_r5New (R.aw (U.trans K)) (kX c) P).mono ?_;rintro _ B ⟨mb,T3,rfl,V,W,X⟩;have C:=(Gx.bV (S:=λ_=>False) R (U.trans K)).trans V;have Y:=V.loc (K.at q1 (by simp)) n1;have a:ai prog (Instr.build 153 #[(0,.agg (dK c).toArray),(1,ptr mb)])=some (.agg (wbA c mb (.pointer none) (.pointer none) (.pointer none))):=bd_153_0_1;simp only[fW Y.1,ac,a,au];have Z:=Gx.p8 (S:=λ_=>False) V.rel 0 153 (wbA c mb (.pointer none) (.pointer none) (.pointer none)).toList;have S4:NwS w T c mb B.heap.size q (.pointer none) (.pointer none) (.pointer none) (B.alloc (.cells (wbA c mb (.pointer none) (.pointer none) (.pointer none)) 153)) _:=
  ⟨C.trans Z,Z.off _ _ X (λh=>h),ax,⟨C.size,cQ (U.trans K).size W⟩,Z.loc Y.1 Y.2⟩
 generalize B.alloc (.cells (wbA c mb (.pointer none) (.pointer none) (.pointer none)) 153)=w4 at*;generalize iz T3 B.heap.size _=T4 at*;generalize B.heap.size=wb at*;have b:∀{d:World} {e:dN} {u2 u3 u4:Value},NwS w T c mb wb q u2 u3 u4 d e->fR prog 25 (bU q) d=some (.agg (dK c).toArray)/\ao (hp d q) (0+0)=some (bS (cW c))/\ao (hp d q) (0+1)=some (bS (cC c))/\ao (hp d q) (0+3)=some (bS (cS c)):=λS=>by
  obtain⟨L,M,l2,O⟩:=cfl S.q.1;rw[N.n1]at L;rw[N.n2]at M;rw[N.n4]at O;exact⟨fW S.q.1,L,M,O⟩
 have f2:∀(d:World) (e:dN) (f sb eb:Nat),NwS w T c mb wb q (ptr f) (ptr sb) (ptr eb) d e->e f=some (.st 0 156 ((oL mb (bP c)).map fQ.v))->e sb=some (.st 0 156 ((oL mb (dL c)).map fQ.v))->e eb=some (.st 0 158 ([ptr mb,bS 2,bS (fS c 0),bS (cW c)].map fQ.v))->
   P55_2 (ptr wb) d λv w'=>∃h T',v=ptr h.wb/\Gx (λ_=>False) w T w' T'/\dM T' h c (qQ c):=by
  intro d e f sb eb o l y a1;have H5:dM e ⟨wb,f,sb,eb,mb⟩ c (List.replicate (kX c) 0):=⟨o.nd,l,y,a1,0,o.m⟩
  apply L55_2_ok;obtain⟨_,_,k7,k8,_⟩:=m9 o.g.rel H5;simp only[L55_2,ptr,ae,ac,rP,fa_153_3,mj,k7];have lp:aLk c 0+cC c<=kX c:=by unfold kX aLk;omega
  have ls:aSl c 0+cS c<=kX c:=by unfold kX aSl;omega
  refine(c_Fill (h:=⟨wb,f,sb,eb,mb⟩) (c:=c) (s:=bP c) (λH=>H.pT) o.g.rel H5 (by rw[dt];exact lp) (by show cC c<=100000;omega) (by show aLk c 0<=100000000;omega) (by rw[dt];show 0<kX c;omega)).mono ?_;rintro _ p ⟨_,T6,g6,H6⟩;have D:(fillV (bP c) (List.replicate (kX c) 0)).length=kX c:=by
   rw[fillV_eq,show(List.range (bP c).n).foldl _ _=rj (bP c) ((List.replicate (kX c) 0).set (bP c).head 1) (bP c).n from rfl,fillN_len,cE,dt]
  obtain⟨_,_,_,a2,_⟩:=m9 g6.rel H6;simp only[ptr,ac,a2];refine(c_Fill (h:=⟨wb,f,sb,eb,mb⟩) (c:=c) (s:=dL c) (λH=>H.sT) g6.rel H6 (by rw[D];exact ls) (by show cS c<=100000;omega) (by show aSl c 0<=100000000;omega) (by rw[D];show 1<kX c;unfold kX;omega)).mono ?_;rintro _ w7 ⟨_,T7,z,H7⟩;refine⟨⟨wb,f,sb,eb,mb⟩,T7,rfl,o.g.then (g6.trans z) λk nd h1 h2=>?_,H7⟩;have h2:k=mb:=h2;rw[h2,R.fresh o.nw.2]at h1;cases h1
 have f1:∀(d:World) (e:dN) (f sb:Nat),NwS w T c mb wb q (ptr f) (ptr sb) (.pointer none) d e->e f=some (.st 0 156 ((oL mb (bP c)).map fQ.v))->e sb=some (.st 0 156 ((oL mb (dL c)).map fQ.v))->
   P55_1 (ptr q) (ptr mb) (ptr wb) d λv w'=>∃h T',v=ptr h.wb/\Gx (λ_=>False) w T w' T'/\dM T' h c (qQ c):=by
  intro d e f sb o l y;apply L55_1_ok;have E:=(ad.refl [] d).drew;have r:=o.aw E;obtain⟨lc,L,_,_⟩:=b o;simp only[L55_1,ptr,ae,ac,eS,ag,(b r).1,L,zS];refine⟨?_,?_⟩;all_goals
   refine(c_Pin1 (i:=0) N dy).mono ?_;rintro _ p ⟨rfl,F⟩;have x:=r.aw F;have a:ai prog (Instr.build 158 #[(0,ptr mb),(1,bS 2),(2,bS (fS c 0)),(3,bS (cW c))])=some (.agg #[ptr mb,bS 2,bS (fS c 0),bS (cW c)]):=bd_158_0_1_2_3;simp only[ptr]at a;simp only[ac,fa_153_4,(b x).2.1,a,ak,au];have j:=x.box 158 [ptr mb,bS 2,bS (fS c 0),bS (cW c)];have A:(iz e p.heap.size (.st 0 158 ([ptr mb,bS 2,bS (fS c 0),bS (cW c)].map fQ.v))) p.heap.size=_:=ax;have z:=Gx.p8 (S:=λ_=>False) x.g.rel 0 158 [ptr mb,bS 2,bS (fS c 0),bS (cW c)];refine aC (A':=wbA c mb (ptr f) (ptr sb) (ptr p.heap.size)) j.g.rel j.nd sz_151 ⟨rfl,rfl⟩ rfl (by rw[wbA_size];omega) λG I t u _ _=>?_;exact f2 G I f sb _ (j.set R t u) (t.off _ _ (z.off _ _ l (λh=>h)) (aA (z.off _ _ l (λh=>h)) j.nd dz)) (t.off _ _ (z.off _ _ y (λh=>h)) (aA (z.off _ _ y (λh=>h)) j.nd dz)) (t.off _ _ A (aA A j.nd dz))
 have f0:∀(d:World) (e:dN) (f:Nat),NwS w T c mb wb q (ptr f) (.pointer none) (.pointer none) d e->e f=some (.st 0 156 ((oL mb (bP c)).map fQ.v))->
   P55_0 (ptr q) (ptr mb) (ptr wb) d λv w'=>∃h T',v=ptr h.wb/\Gx (λ_=>False) w T w' T'/\dM T' h c (qQ c):=by
  intro d e f o l;apply L55_0_ok;have E:=(ad.refl [] d).drew;have r:=o.aw E;obtain⟨lc,_,_,O⟩:=b o;simp only[L55_0,ptr,ae,ac,iJ,ag,(b r).1,O,zS];refine⟨?_,?_⟩;all_goals
   refine(c_Slot1 (i:=0) N dy).mono ?_;rintro _ p ⟨rfl,F⟩;have x:=r.aw F;have a:ai prog (Instr.build 156 #[(0,ptr mb),(1,bS 1),(2,bS (aSl c 0)),(3,bS (cS c))])=some (.agg (oL mb (dL c)).toArray):=sp;simp only[ptr]at a;simp only[ac,fa_153_3,(b x).2.2.2,a,ak,au];have j:=x.box 156 (oL mb (dL c));have A:(iz e p.heap.size (.st 0 156 ((oL mb (dL c)).map fQ.v))) p.heap.size=_:=ax;have z:=Gx.p8 (S:=λ_=>False) x.g.rel 0 156 (oL mb (dL c));refine aC (A':=wbA c mb (ptr f) (ptr p.heap.size) (.pointer none)) j.g.rel j.nd sz_150 ⟨rfl,rfl⟩ rfl (by rw[wbA_size];omega) λG I t u _ _=>?_;exact f1 G I f _ (j.set R t u) (t.off _ _ (z.off _ _ l (λh=>h)) (aA (z.off _ _ l (λh=>h)) j.nd dz)) (t.off _ _ A (aA A j.nd dz))
 have E:=(ad.refl [] w4).drew;have J:=S4.aw E;obtain⟨lc,_,M,_⟩:=b S4;simp only[ptr,ae,ac,jK,ag,(b J).1,M,zS];refine⟨?_,?_⟩;all_goals
  refine(c_Link (i:=0) N dy).mono ?_;rintro _ p ⟨rfl,F⟩;have x:=J.aw F;have a:ai prog (Instr.build 156 #[(0,ptr mb),(1,bS 0),(2,bS (aLk c 0)),(3,bS (cC c))])=some (.agg (oL mb (bP c)).toArray):=sp;simp only[ptr]at a;simp only[ac,rP,(b x).2.2.1,a,au];have j:=x.box 156 (oL mb (bP c));have A:(iz T4 p.heap.size (.st 0 156 ((oL mb (bP c)).map fQ.v))) p.heap.size=_:=ax;refine aC (A':=wbA c mb (ptr p.heap.size) (.pointer none) (.pointer none)) j.g.rel j.nd sz_150 ⟨rfl,rfl⟩ rfl (by rw[wbA_size];omega) λG I t u _ _=>?_;exact f0 G I _ (j.set R t u) (t.off _ _ A (aA A j.nd dz))
end
theorem uy{α β:Type}{f:α->List β}{z:Nat}(h:∀x,(f x).length=z){k:Nat}{xs:List β}(d:k+xs.length<=z){x x':α}(c:f x'=(f x).take k++xs++(f x).drop (k+xs.length)):∀(L:List α) (i:Nat),L[i]? =some x->(L.flatMap f).take (i*z+k)++xs++(L.flatMap f).drop (i*z+k+xs.length)=(L.set i x').flatMap f
 | [],i,a=>by simp at a
 |y::b,0,a=>by
  simp at a;subst a;rw[dx,Nat.zero_mul,cV,List.set_cons_zero,dx,c,List.take_append_of_le_length (by rw[h];omega),List.drop_append_of_le_length (by rw[h];omega)];simp only[List.append_assoc]
 |y::b,i+1,a=>by
  have a:b[i]? =some x:=by simpa using a
  have e:=uy h d c b i a;have g:(i+1)*z+k=(f y).length+(i*z+k):=by rw[h,Nat.add_mul,Nat.one_mul];omega
  rw[dx,g,Nat.add_assoc (f y).length,List.take_length_add_append,List.drop_length_add_append,List.set_cons_succ,dx,<-e];simp only[List.append_assoc]
section
variable{w w0 w1 w2 w':World}{T T0 T1 T2 T':dN}{h:Hm}{c:cP}{m m':bI}{o o' b sb lb q kb wb mb ab:Nat}
theorem Ev.Gx.grow2{e:TypeId}{cs n:List fQ}{vs p:List Value}(R:Rel w T)(hT:T b=some (.st o e cs))(N:m7 w T b e cs vs){k1 k2:Nat}(m:k1≠k2){M u1 v2 u2:Value}{H I:TypeId}{J n1 r K n2 s:Nat}{O g P i:List Value}
  (z:cs[k1]? =some (.gr H J n1 O)) (Q:vs[k1]? =some M) (t:cs[k2]? =some (.gr I K n2 P)) (A:vs[k2]? =some v2)
  (B:aW (λq=>M.ownBlock=some q) w w1) (S:iB w M u1) (U:w1.ownsRow 0 H J u1 r g)
  (c:aW (λq=>v2.ownBlock=some q) w1 w2) (C:iB w1 v2 u2) (V:w2.ownsRow 0 I K u2 s i)
  (u:n=(cs.set k1 (.gr H J r g)).set k2 (.gr I K s i)) (x:p=(vs.set k1 u1).set k2 u2):
  hp w2 b=hp w b/\∃T',T' b=some (.st o e n)/\Gx (λq=>q=b) w T (Ev.put w2 b p.toArray e) T':=by
 have D:=N.len;have l1:=(ce.1 z).1;have l2:=(ce.1 t).1;obtain⟨b1,T1,E,W⟩:=Gx.grow (vs':=vs.set k1 u1) (cs':=cs.set k1 (.gr H J r g)) R hT N z Q B S U (by simp[D]) (by simp[l1]) (by rw[List.getElem?_set_self dy]) λj X v L F G=>by
  rw[List.getElem?_set_ne (λh=>L h.symm)]at F G;exact N.each j X v F G
 have Y:b<w.heap.size:=R.lt b _ hT;have d:b<w1.heap.size:=cY Y B.size;have y:∀q,v2.ownBlock=some q->T q=some (.own b k2):=(N.each k2 _ v2 t A).2;have f:∀q,v2.ownBlock=some q->q≠b:=λq l=>lP hT (y q l);have Z:∀q,u2.ownBlock=some q->q≠b:=λq l=>by
  rcases C q l with h|h
  ·exact f q h
  ·omega
 obtain⟨a3,N1⟩:=W.rel.node b _ _ _ E;have ex:a3=vs.set k1 u1:=by
  have a:=N1.hb;rw[aq d]at a;have a:=Option.some.inj a;injection a with a1 a2
  have:=congrArg Array.toList a1;simpa using this.symm
 subst ex;have a4:aW (λq=>v2.ownBlock=some q) (Ev.put w1 b (vs.set k1 u1).toArray e) (Ev.put w2 b (vs.set k1 u1).toArray e):=by
  have p1:=aW.put w1 b (vs.set k1 u1).toArray e;have p2:=aW.put w2 b (vs.set k1 u1).toArray e;refine⟨p2.os.trans (c.os.trans p1.os.symm),p2.tape.trans (c.tape.trans p1.tape.symm),p2.output.trans (c.output.trans p1.output.symm),by rw[nR,nR];exact c.size,λq l hn=>?_⟩;rw[nR]at l;by_cases h:q=b
  ·subst h;exact(aq (cY d c.size) _ _).trans (aq d _ _).symm
  ·exact(aV h _ _).trans ((c.block q l hn).trans (aV h _ _).symm)
 have a5:(Ev.put w2 b (vs.set k1 u1).toArray e).ownsRow 0 I K u2 s i:=(aW.put w2 b (vs.set k1 u1).toArray e).row V λq l=>Z q l;have a6:iB (Ev.put w1 b (vs.set k1 u1).toArray e) v2 u2:=λq l=>by rw[nR];exact C q l
 obtain⟨b2,T2,a7,g2⟩:=Gx.grow (vs':=p) (cs':=n) W.rel E N1 (k:=k2) (by rw[List.getElem?_set_ne m];exact t) (by rw[List.getElem?_set_ne m];exact A) a4 a6 a5 (by rw[x,u];simp[D]) (by rw[u];simp[l2]) (by rw[x];rw[List.getElem?_set_self (by simp;omega)]) λj X v L F G=>by
  rw[u,List.getElem?_set_ne (λh=>L h.symm)]at F;rw[x,List.getElem?_set_ne (λh=>L h.symm)]at G;exact N1.each j X v F G
 rw[jI]at g2;refine⟨?_,T2,a7,W.trans g2⟩;rw[<- b1];exact c.block b d λh=>f b h rfl
def arV(c:cP)(wb:Nat)(kv ov av pv lv hv:Value)(steps:Int):List Value:=dK c++ [ptr wb,kv,ov,av,pv,lv,hv,bS steps]
structure ArC where
 ks:List Value
 ops:List Value
 at':List Int
 op:List Int
 l:List dR
 h:List eF
 steps:Int
def rA(c:cP)(wb:Nat)(a:ArC):List fQ:=(dK c).map fQ.v++ [.v (ptr wb),.gr 118 1 a.ks.length a.ks,.gr 116 1 a.ops.length a.ops,.gr 3 1 a.at'.length (ints a.at'),.gr 3 1 a.op.length (ints a.op),.gr 39 20 a.l.length (a.l.flatMap ji),.gr 32 5 a.h.length (a.h.flatMap bB),.v (bS a.steps)]
def uz(c:cP)(wb:Nat)(a:ArC):Nod:= .st 0 78 (rA c wb a)
structure qe(w:World)(T:dN)(ab:Nat)(c:cP)(wb:Nat)(a:ArC)(kv ov av pv lv hv:Value):Prop where
 n:m7 w T ab 78 (rA c wb a) (arV c wb kv ov av pv lv hv a.steps)
 rk:w.ownsRow 0 118 1 kv a.ks.length a.ks
 ro:w.ownsRow 0 116 1 ov a.ops.length a.ops
 ra:w.ownsRow 0 3 1 av a.at'.length (ints a.at')
 rp:w.ownsRow 0 3 1 pv a.op.length (ints a.op)
 rl:w.ownsRow 0 39 20 lv a.l.length (a.l.flatMap ji)
 rh:w.ownsRow 0 32 5 hv a.h.length (a.h.flatMap bB)
theorem ar_f{a:ArC}(R:Rel w T)(hT:T ab=some (uz c wb a)):∃kv ov av pv lv hv,qe w T ab c wb a kv ov av pv lv hv:=by
 obtain⟨vs,N⟩:=R.node _ _ _ _ hT;have d:=N.len;have b:=N.each;match vs,d,b,N with
 | [v0,v1,v2,v3,v4,v5,v6,v7,v8,v9,v10,v11,v12,v13],_,b,N=>
  have f:v0=_:=b 0 _ v0 rfl rfl;have g:v1=_:=b 1 _ v1 rfl rfl;have i:v2=_:=b 2 _ v2 rfl rfl;have j:v3=_:=b 3 _ v3 rfl rfl;have k:v4=_:=b 4 _ v4 rfl rfl;have l:v5=_:=b 5 _ v5 rfl rfl;have m:v6=_:=b 6 _ v6 rfl rfl;have e:v13=_:=b 13 _ v13 rfl rfl;subst f g i j k l m e;exact⟨v7,v8,v9,v10,v11,v12,N,(b 7 _ _ rfl rfl).1,(b 8 _ _ rfl rfl).1,(b 9 _ _ rfl rfl).1,(b 10 _ _ rfl rfl).1,(b 11 _ _ rfl rfl).1,(b 12 _ _ rfl rfl).1⟩
theorem qe.ld{a:ArC}{kv ov av pv lv hv:Value}(F:qe w T ab c wb a kv ov av pv lv hv):ao (hp w ab) (0+6)=some (ptr wb)/\ao (hp w ab) (0+7)=some kv/\ao (hp w ab) (0+8)=some ov/\ao (hp w ab) (0+9)=some av/\ao (hp w ab) (0+10)=some pv/\ao (hp w ab) (0+11)=some lv/\ao (hp w ab) (0+12)=some hv/\ao (hp w ab) (0+13)=some (bS a.steps)/\ao (hp w ab) (0+0+0)=some (bS c.1):=by
 rw[F.n.hb];exact⟨rfl,rfl,rfl,rfl,rfl,rfl,rfl,rfl,rfl⟩
theorem ar_steps{a:ArC}{kv ov av pv lv hv:Value}(R:Rel w T)(hT:T ab=some (uz c wb a))(F:qe w T ab c wb a kv ov av pv lv hv)(x:Int){L:World->Prop}(g:∀w' T',Gx (λq=>q=ab) w T w' T'->T' ab=some (uz c wb {a with steps:=x})->L w'):dE prog (Instr.storeAt 3 (.pointer (some ⟨ab,0+13,none⟩)) (bS x)) w L:=by
 rw[hC rfl rfl (by rw[F.n.hb,aT];exact cj (by show 0+13+1<=14;omega)),F.n.hb,ay,ar];refine g _ _ (Gx.put (vs':=arV c wb kv ov av pv lv hv x) (cs':=rA c wb {a with steps:=x}) R hT rfl λj i v d e=>?_) ax;have b:=(ce.1 d).1;by_cases f:j=13
 ·subst f;cases d;cases e;rfl
 ·have b:j<13:=by have:(rA c wb {a with steps:=x}).length=14:=rfl;omega
  have k:(rA c wb {a with steps:=x})[j]? =(rA c wb a)[j]? :=by
   have:∀j,j<13->(rA c wb {a with steps:=x})[j]? =(rA c wb a)[j]? :=by intro j b;match j,b with
    |0,_=>rfl|1,_=>rfl|2,_=>rfl|3,_=>rfl|4,_=>rfl|5,_=>rfl|6,_=>rfl|7,_=>rfl|8,_=>rfl|9,_=>rfl|10,_=>rfl|11,_=>rfl|12,_=>rfl
   exact this j b
  have l:(arV c wb kv ov av pv lv hv x)[j]? =(arV c wb kv ov av pv lv hv a.steps)[j]? :=by
   have:∀j,j<13->(arV c wb kv ov av pv lv hv x)[j]? =(arV c wb kv ov av pv lv hv a.steps)[j]? :=by intro j b;match j,b with
    |0,_=>rfl|1,_=>rfl|2,_=>rfl|3,_=>rfl|4,_=>rfl|5,_=>rfl|6,_=>rfl|7,_=>rfl|8,_=>rfl|9,_=>rfl|10,_=>rfl|11,_=>rfl|12,_=>rfl
   exact this j b
  rw[k]at d;rw[l]at e;exact F.n.each j i v d e
theorem qe.of{a:ArC}{kv ov av pv lv hv:Value}(R:Rel w T)(hT:T ab=some (uz c wb a))(hb:hp w ab=some (.cells (arV c wb kv ov av pv lv hv a.steps).toArray 78)):qe w T ab c wb a kv ov av pv lv hv:=by
 obtain⟨b,d,f,pv',g,i,F⟩:=ar_f R hT;have e:=F.n.hb;rw[hb]at e;have e:=Option.some.inj e;injection e with j k
 have e:=congrArg Array.toList j;have e:arV c wb kv ov av pv lv hv a.steps=arV c wb b d f pv' g i a.steps:=by simpa using e
 simp only[arV,List.append_cancel_left_eq,List.cons.injEq,and_true,true_and]at e;obtain⟨rfl,rfl,rfl,rfl,rfl,rfl⟩:=e;exact F
section
variable{a:ArC}{kv ov av pv lv hv:Value}
theorem ints_len(l:List Int):(ints l).length=l.length:=by simp[ints]
theorem ints_set(l:List Int){i:Nat}(a:i<l.length)(x:Int):(ints l).take i++ [bS x]++(ints l).drop (i+ [Value.int .i64 x].length)=ints (l.set i x):=by
 rw[show [Value.int .i64 x].length=1 from rfl,set_eq _ _ _ (by rw[ints_len];exact a),ints,ints,List.map_set]
theorem ints_get(l:List Int){i:Nat}(a:i<l.length):(ints l)[i]? =some (bS (l.getD i 0)):=by
 rw[ints,cM,cu,bZ a];rfl
theorem ar_at(R:Rel w T)(hT:T ab=some (uz c wb a))(F:qe w T ab c wb a kv ov av pv lv hv){i:Nat}(e:i<a.at'.length):∃g,ai prog (Instr.indexAt 22 av (bS i))=some (.pointer (some ⟨g,i,none⟩))/\ao (hp w g) i=some (bS (a.at'.getD i 0))/\
  ∀(x:Int) (L:World->Prop),(∀ w' T',Gx (λq=>q=ab) w T w' T'->T' ab=some (uz c wb {a with at':=a.at'.set i x})->qe w' T' ab c wb {a with at':=a.at'.set i x} kv ov av pv lv hv->L w')->dE prog (Instr.storeAt 3 (.pointer (some ⟨g,i,none⟩)) (bS x)) w L:=by
 obtain⟨g,k,rfl,hb,f,m,_,_⟩:=mK (P:=prog) (t:=22) (j:= .i64) (i:=(i:Int)) F.ra Tryz.underlying22 aE dy dy;rw[cq,dm]at f;have l:=m 0 dy;rw[cq,dm,Nat.add_zero,ints_get _ e]at l;refine⟨g,f,l,λx L o=>?_⟩;obtain⟨r,s,b⟩:=Gx.rowset (xs:= [bS x]) R hT F.n (k:=9) (e':=3) (z:=1) rfl rfl (p:=g) (i:=i) rfl (by simp;omega);rw[ints_set _ e]at b;have u:(rA c wb a).set 9 (.gr 3 1 a.at'.length (ints (a.at'.set i x)))=rA c wb {a with at':=a.at'.set i x}:=by
  simp only[rA,cE];rfl
 rw[u]at b;rw[hC rfl rfl r];have d:hp (Ev.put w g ((dG (hp w g)).setIfInBounds i (bS x)) (dH (hp w g))) ab=hp w ab:=aV (λh=>s h.symm) _ _;exact o _ _ b ax (qe.of b.rel ax (by rw[d];exact F.n.hb))
theorem ar_op(R:Rel w T)(hT:T ab=some (uz c wb a))(F:qe w T ab c wb a kv ov av pv lv hv){i:Nat}(e:i<a.op.length):∃g,ai prog (Instr.indexAt 22 pv (bS i))=some (.pointer (some ⟨g,i,none⟩))/\ao (hp w g) i=some (bS (a.op.getD i 0))/\
  ∀(x:Int) (L:World->Prop),(∀ w' T',Gx (λq=>q=ab) w T w' T'->T' ab=some (uz c wb {a with op:=a.op.set i x})->qe w' T' ab c wb {a with op:=a.op.set i x} kv ov av pv lv hv->L w')->dE prog (Instr.storeAt 3 (.pointer (some ⟨g,i,none⟩)) (bS x)) w L:=by
 obtain⟨g,k,rfl,hb,f,m,_,_⟩:=mK (P:=prog) (t:=22) (j:= .i64) (i:=(i:Int)) F.rp Tryz.underlying22 aE dy dy;rw[cq,dm]at f;have l:=m 0 dy;rw[cq,dm,Nat.add_zero,ints_get _ e]at l;refine⟨g,f,l,λx L o=>?_⟩;obtain⟨r,s,b⟩:=Gx.rowset (xs:= [bS x]) R hT F.n (k:=10) (e':=3) (z:=1) rfl rfl (p:=g) (i:=i) rfl (by simp;omega);rw[ints_set _ e]at b;have u:(rA c wb a).set 10 (.gr 3 1 a.op.length (ints (a.op.set i x)))=rA c wb {a with op:=a.op.set i x}:=by
  simp only[rA,cE];rfl
 rw[u]at b;rw[hC rfl rfl r];have d:hp (Ev.put w g ((dG (hp w g)).setIfInBounds i (bS x)) (dH (hp w g))) ab=hp w ab:=aV (λh=>s h.symm) _ _;exact o _ _ b ax (qe.of b.rel ax (by rw[d];exact F.n.hb))
theorem ar_sp(R:Rel w T)(hT:T ab=some (uz c wb a))(F:qe w T ab c wb a kv ov av pv lv hv){i:Nat}{s:dR}(m:a.l[i]? =some s):∃g,ai prog (Instr.indexAt 26 lv (bS i))=some (.pointer (some ⟨g,i*20,none⟩))/\(∀ k,k<20->ao (hp w g) (i*20+k)=(ji s)[k]?)/\
  ∀(t:TypeId) (x:Value) (n k:Nat) (d:dR) (L:World->Prop),(Tryz.prog.info? t).map (·.size)=some n->(x.cells.size=n/\x.cells.toList.all (·.oneCell')=true/\0<n)->k+n<=20->ji d=(ji s).take k++x.cells.toList++(ji s).drop (k+n)->
   (∀ w' T',Gx (λq=>q=ab) w T w' T'->T' ab=some (uz c wb {a with l:=a.l.set i d})->qe w' T' ab c wb {a with l:=a.l.set i d} kv ov av pv lv hv->L w')->dE prog (Instr.storeAt t (.pointer (some ⟨g,i*20+k,none⟩)) x) w L:=by
 have u:=(ce.1 m).1;obtain⟨g,kk,rfl,hb,r,v,_,y⟩:=mK (P:=prog) (t:=26) (j:= .i64) (i:=(i:Int)) F.rl Tryz.underlying26 sz_39 dy dy;rw[cq]at r y;refine⟨g,r,λk e=>?_,λt x n k d L A one o B e=>?_⟩
 ·have:=v k e;rw[cq]at this;rw[this];exact ba nJ a.l i s m k e
 ·have b:x.cells.toList.length=n:=by rw[Array.length_toList];exact one.1
  obtain⟨C,D,f⟩:=Gx.rowset (xs:=x.cells.toList) R hT F.n (k:=11) (e':=39) (z:=20) rfl rfl (p:=g) (i:=i*20+k) rfl (by rw[b];omega);rw[uy nJ (by rw[b];exact o) (by rw[b];exact B) a.l i m]at f;have E:(rA c wb a).set 11 (.gr 39 20 a.l.length ((a.l.set i d).flatMap ji))=rA c wb {a with l:=a.l.set i d}:=by
   simp only[rA,cE];rfl
  rw[E]at f;rw[mh A one.1 one.2.1 one.2.2 (by rw[<- b];exact C)];exact e _ _ f ax (qe.of f.rel ax (by rw[aV (λh=>D h.symm)];exact F.n.hb))
end
end
section
variable{w w0 w1 w2 w':World}{T T0 T1 T2 T':dN}{h:Hm}{c:cP}{m m':bI}{o o' b sb lb q kb wb mb ab:Nat}{a:ArC}{kv ov av pv lv hv:Value}
theorem qe.aw(R:Rel w T)(hT:T ab=some (uz c wb a))(F:qe w T ab c wb a kv ov av pv lv hv)(b:ad [] w w'):qe w' T ab c wb a kv ov av pv lv hv:=qe.of (R.aw b) hT (b.at F.n.hb (by simp))
theorem qT{e:TypeId}{z n base:Nat}{v:Value}{us:List Value}(h:w.ownsRow base e z v n us):v.cells= #[v]/\v.oneCell'=true:=by
 obtain⟨A,c,rfl,_⟩:=aG h;exact⟨rfl,rfl⟩
theorem ar_grow(R:Rel w T)(hT:T ab=some (uz c wb a))(F:qe w T ab c wb a kv ov av pv lv hv){k z n f:Nat}{e':TypeId}{us b:List Value}{v v':Value}(g:(rA c wb a)[k]? =some (.gr e' z n us))(d:(arV c wb kv ov av pv lv hv a.steps)[k]? =some v)
  (m:aW (λq=>v.ownBlock=some q) w w1) (o:iB w v v') (p:w1.ownsRow 0 e' z v' f b):
  hp w1 ab=hp w ab/\∃T',T' ab=some (.st 0 78 ((rA c wb a).set k (.gr e' z f b)))/\Gx (λq=>q=ab) w T (Ev.put w1 ab ((arV c wb kv ov av pv lv hv a.steps).set k v').toArray 78) T':=by
 have r:=(ce.1 g).1;have e:=(ce.1 d).1;exact Gx.grow R hT F.n g d m o p (by rw[cE,cE];exact F.n.len) (by rw[List.getElem?_set_self r]) (by rw[List.getElem?_set_self e]) λj s u t i l=>by
  rw[List.getElem?_set_ne (λh=>t h.symm)]at i l;exact F.n.each j s u i l
theorem ar_st(F:qe w T ab c wb a kv ov av pv lv hv)(hb:hp w1 ab=hp w ab){t:TypeId}{k:Nat}{v':Value}(b:(Tryz.prog.info? t).map (·.size)=some 1)(one:v'.cells= #[v']/\v'.oneCell'=true)(e:k<14){L:World->Prop}(d:L (Ev.put w1 ab ((arV c wb kv ov av pv lv hv a.steps).set k v').toArray 78)):dE prog (Instr.storeAt t (.pointer (some ⟨ab,0+k,none⟩)) v') w1 L:=by
 rw[fC b one.1 one.2 (by rw[hb,F.n.hb,aT];exact cj (by show 0+k+1<=14;omega)),hb,F.n.hb,ay,ar];rw[cV,List.setIfInBounds_toArray];exact d
theorem ar_addL(R:Rel w T)(hT:T ab=some (uz c wb a))(F:qe w T ab c wb a kv ov av pv lv hv)(s:dR){v':Value}(e:aW (λq=>lv.ownBlock=some q) w w1)(i:iB w lv v')(f:w1.ownsRow 0 39 20 v' (a.l.length+1) (a.l.flatMap ji++ji s)){L:World->Prop}
  (j:∀w' T',Gx (λq=>q=ab) w T w' T'->T' ab=some (uz c wb {a with l:=a.l++ [s]})->qe w' T' ab c wb {a with l:=a.l++ [s]} kv ov av pv v' hv->L w'):dE prog (Instr.storeAt 26 (.pointer (some ⟨ab,0+11,none⟩)) v') w1 L:=by
 obtain⟨hb,T',b,g⟩:=ar_grow (k:=11) R hT F rfl rfl e i f;have m:(rA c wb a).set 11 (.gr 39 20 (a.l.length+1) (a.l.flatMap ji++ji s))=rA c wb {a with l:=a.l++ [s]}:=by
  simp only[rA,cJ,List.length_singleton,List.flatMap_append,dx,List.flatMap_nil,List.append_nil];rfl
 rw[m]at b;refine ar_st F hb sz_26 (qT f) dy (j _ T' g b (qe.of g.rel b ?_));have d:ab<w1.heap.size:=cY (R.lt ab _ hT) e.size;exact aq d _ _
theorem ar_addH(R:Rel w T)(hT:T ab=some (uz c wb a))(F:qe w T ab c wb a kv ov av pv lv hv)(x:eF){v':Value}(e:aW (λq=>hv.ownBlock=some q) w w1)(i:iB w hv v')(f:w1.ownsRow 0 32 5 v' (a.h.length+1) (a.h.flatMap bB++bB x)){L:World->Prop}
  (j:∀w' T',Gx (λq=>q=ab) w T w' T'->T' ab=some (uz c wb {a with h:=a.h++ [x]})->qe w' T' ab c wb {a with h:=a.h++ [x]} kv ov av pv lv v'->L w'):dE prog (Instr.storeAt 76 (.pointer (some ⟨ab,0+12,none⟩)) v') w1 L:=by
 obtain⟨hb,T',b,g⟩:=ar_grow (k:=12) R hT F rfl rfl e i f;have l:(rA c wb a).set 12 (.gr 32 5 (a.h.length+1) (a.h.flatMap bB++bB x))=rA c wb {a with h:=a.h++ [x]}:=by
  simp only[rA,cJ,List.length_singleton,List.flatMap_append,dx,List.flatMap_nil,List.append_nil];rfl
 rw[l]at b;refine ar_st F hb sz_76 (qT f) dy (j _ T' g b (qe.of g.rel b ?_));have d:ab<w1.heap.size:=cY (R.lt ab _ hT) e.size;exact aq d _ _
theorem ar_addK(R:Rel w T)(hT:T ab=some (uz c wb a))(F:qe w T ab c wb a kv ov av pv lv hv)(x:Value){v':Value}(e:aW (λq=>kv.ownBlock=some q) w w1)(i:iB w kv v')(f:w1.ownsRow 0 118 1 v' (a.ks.length+1) (a.ks++ [x])){L:World->Prop}
  (j:∀w' T',Gx (λq=>q=ab) w T w' T'->T' ab=some (uz c wb {a with ks:=a.ks++ [x]})->qe w' T' ab c wb {a with ks:=a.ks++ [x]} v' ov av pv lv hv->L w'):dE prog (Instr.storeAt 75 (.pointer (some ⟨ab,0+7,none⟩)) v') w1 L:=by
 obtain⟨hb,T',b,g⟩:=ar_grow (k:=7) R hT F rfl rfl e i f;have l:(rA c wb a).set 7 (.gr 118 1 (a.ks.length+1) (a.ks++ [x]))=rA c wb {a with ks:=a.ks++ [x]}:=by
  simp only[rA,cJ,List.length_singleton];rfl
 rw[l]at b;refine ar_st F hb sz_75 (qT f) dy (j _ T' g b (qe.of g.rel b ?_));have d:ab<w1.heap.size:=cY (R.lt ab _ hT) e.size;exact aq d _ _
theorem ar_addO(R:Rel w T)(hT:T ab=some (uz c wb a))(F:qe w T ab c wb a kv ov av pv lv hv)(x:Value){v':Value}(e:aW (λq=>ov.ownBlock=some q) w w1)(i:iB w ov v')(f:w1.ownsRow 0 116 1 v' (a.ops.length+1) (a.ops++ [x])){L:World->Prop}
  (j:∀w' T',Gx (λq=>q=ab) w T w' T'->T' ab=some (uz c wb {a with ops:=a.ops++ [x]})->qe w' T' ab c wb {a with ops:=a.ops++ [x]} kv v' av pv lv hv->L w'):dE prog (Instr.storeAt 70 (.pointer (some ⟨ab,0+8,none⟩)) v') w1 L:=by
 obtain⟨hb,T',b,g⟩:=ar_grow (k:=8) R hT F rfl rfl e i f;have l:(rA c wb a).set 8 (.gr 116 1 (a.ops.length+1) (a.ops++ [x]))=rA c wb {a with ops:=a.ops++ [x]}:=by
  simp only[rA,cJ,List.length_singleton];rfl
 rw[l]at b;refine ar_st F hb sz_70 (qT f) dy (j _ T' g b (qe.of g.rel b ?_));have d:ab<w1.heap.size:=cY (R.lt ab _ hT) e.size;exact aq d _ _
theorem ints_app(l:List Int)(x:Int):ints l++ [bS x]=ints (l++ [x]):=by simp[ints]
theorem ar_add2(R:Rel w T)(hT:T ab=some (uz c wb a))(F:qe w T ab c wb a kv ov av pv lv hv)(x y:Int){u1 u2:Value}(f:aW (λq=>av.ownBlock=some q) w w1)(l:iB w av u1)(d:w1.ownsRow 0 3 1 u1 (a.at'.length+1) (ints a.at'++ [bS x]))
  (i:aW (λq=>pv.ownBlock=some q) w1 w2) (m:iB w1 pv u2) (b:w2.ownsRow 0 3 1 u2 (a.op.length+1) (ints a.op++ [bS y])) {L:World->Prop}
  (o:∀w' T',Gx (λq=>q=ab) w T w' T'->T' ab=some (uz c wb {a with at':=a.at'++ [x],op:=a.op++ [y]})->qe w' T' ab c wb {a with at':=a.at'++ [x],op:=a.op++ [y]} kv ov u1 u2 lv hv->L w'):
  dE prog (Instr.storeAt 22 (.pointer (some ⟨ab,0+9,none⟩)) u1) w2 λp=>dE prog (Instr.storeAt 22 (.pointer (some ⟨ab,0+10,none⟩)) u2) p L:=by
 rw[ints_app]at d b;obtain⟨hb,T',e,g⟩:=Ev.Gx.grow2 (k1:=9) (k2:=10) R hT F.n dz rfl rfl rfl rfl f l d i m b rfl rfl;have r:((rA c wb a).set 9 (.gr 3 1 (a.at'.length+1) (ints (a.at'++ [x])))).set 10 (.gr 3 1 (a.op.length+1) (ints (a.op++ [y])))=rA c wb {a with at':=a.at'++ [x],op:=a.op++ [y]}:=by
  simp only[rA,cJ,List.length_singleton];rfl
 rw[r]at e;have j:ab<w2.heap.size:=cY (R.lt ab _ hT) (cQ f.size i.size);refine ar_st F hb sz_22 (qT d) dy ?_;have k:hp (Ev.put w2 ab ((arV c wb kv ov av pv lv hv a.steps).set 9 u1).toArray 78) ab=some (.cells ((arV c wb kv ov av pv lv hv a.steps).set 9 u1).toArray 78):=aq j _ _;rw[fC sz_22 (qT b).1 (qT b).2 (by rw[k,aT];exact cj (by show 0+10+1<=14;omega)),k,ay,ar,jI,List.setIfInBounds_toArray];exact o _ T' g e (qe.of g.rel e (aq j _ _))
end
section
variable{w w0 w1 w2 w':World}{T T0 T1 T2 T':dN}{h:Hm}{c:cP}{m m':bI}{o o' b sb lb q kb wb mb ab:Nat}{a:tj}{dY:List Nat}{dB:List Value}{kv ov av pv lv hv:Value}
abbrev arCof(a:tj)(dY:List Nat)(dB:List Value):ArC:=⟨dY.map ptr,dB,a.at',a.open',a.l,a.h,a.steps⟩
structure oM(w:World)(T:dN)(ab:Nat)(h:Hm)(c:cP)(a:tj)(dY:List Nat)(dB:List Value):Prop where
 nd:T ab=some (uz c h.wb (arCof a dY dB))
 hm:dM T h c a.m
 n1:dY.length=cW c
 n2:dB.length=cW c
 n3:a.ks.length=cW c
 n4:a.at'.length=cW c
 n5:a.open'.length=cW c
 n6:a.ops.length=cW c
 wk:∀i,i<cW c->uw w T (i+1) (dY.getD i 0) h c i (a.ks.getD i aI)
 op:∀i,i<cW c->∃A k,dB[i]? =some (.slice A (a.ops.getD i []).length k)/\Lo w T A ((a.ops.getD i []).flatMap dC)
theorem oM.aw(P:oM w T ab h c a dY dB)(R:Rel w T)(d:ad [] w w'):oM w' T ab h c a dY dB:=
 ⟨P.nd,P.hm,P.n1,P.n2,P.n3,P.n4,P.n5,P.n6,λi b=>(P.wk i b).sQ (S:=λ_=>False) (Gx.bV R d) λ_ _ _ _ h=>h,λi b=>by
  obtain⟨A,k,e,f⟩:=P.op i b;exact⟨A,k,e,f.aw d⟩⟩
theorem oM.kbl(P:oM w T ab h c a dY dB)(F:qe w T ab c h.wb (arCof a dY dB) kv ov av pv lv hv){i:Nat}(b:i<cW c):∃g,ai prog (Instr.indexAt 75 kv (bS i))=some (.pointer (some ⟨g,i,none⟩))/\ao (hp w g) i=some (ptr (dY.getD i 0)):=by
 have m:i<(dY.map ptr).length:=by rw[List.length_map,P.n1];exact b
 obtain⟨g,k,rfl,hb,d,f,_,_⟩:=mK (P:=prog) (t:=75) (j:= .i64) (i:=(i:Int)) F.rk Tryz.underlying75 sz_118 dy (by show(i:Int)<(dY.map ptr).length;omega);rw[cq,dm]at d;have e:=f 0 dy;rw[cq,dm,Nat.add_zero]at e;have l:i<dY.length:=by rw[P.n1];exact b
 refine⟨g,d,e.trans ?_⟩;show(dY.map ptr)[i]? =_;rw[cM,cu,bZ l];rfl
theorem oM.ol(P:oM w T ab h c a dY dB)(F:qe w T ab c h.wb (arCof a dY dB) kv ov av pv lv hv){i:Nat}(p:i<cW c):∃g A k,ai prog (Instr.indexAt 70 ov (bS i))=some (.pointer (some ⟨g,i,none⟩))/\ao (hp w g) i=some (.slice A (a.ops.getD i []).length k)/\
  ∀j (d:j<(a.ops.getD i []).length),∃b o,ai prog (Instr.indexAt 116 (.slice A (a.ops.getD i []).length k) (bS j))=some (.pointer (some ⟨b,o,none⟩))/\fR prog 37 (.pointer (some ⟨b,o,none⟩)) w=some (.agg (dC (a.ops.getD i [])[j]).toArray):=by
 obtain⟨A,e,q,r⟩:=P.op i p;obtain⟨g,k,rfl,hb,f,u,_,_⟩:=mK (P:=prog) (t:=70) (j:= .i64) (i:=(i:Int)) F.ro Tryz.underlying70 sz_116 dy (by show(i:Int)<dB.length;rw[P.n2];omega);rw[cq,dm]at f;have l:=u 0 dy;rw[cq,dm,Nat.add_zero]at l;refine⟨g,A,e,f,l.trans q,λj d=>?_⟩;obtain⟨b,o,v,_,m,_⟩:=r.rd.elem (P:=prog) (s:=116) (n:=(a.ops.getD i []).length) (c:=e) (j:= .i64) (i:=(j:Int)) Tryz.underlying116 nZ dy (by rw[ja qC];omega) dy dy;rw[cq,lg qC _ _ d]at m;exact⟨b,o,v,by rw[ld_37,m];rfl⟩
theorem aheadN_eq{l:List ez}{i:Nat}(a:i<l.length)(b:jz l[i]=true):oE l i=i:=by rw[oE,dif_pos a,bX b]
theorem aheadN_next{l:List ez}{i:Nat}(a:i<l.length)(b:jz l[i]=false):oE l i=oE l (i+1):=by rw[oE,dif_pos a,bY (by rw[b];decide)]
theorem aheadN_end{l:List ez}{i:Nat}(a:¬i<l.length):oE l i=i:=by rw[oE,dif_neg a]
theorem l_ahead{i:Nat}(n:i<cW c)(t:(a.ops.getD i []).length<=100000):∀(f j:Nat),j+f=(a.ops.getD i []).length+1->∀{w:World},Rel w T->oM w T ab h c a dY dB->
  P100_0 (ptr ab) (bS i) (bS j) w λv w'=>v=bS (oE (a.ops.getD i []) j:Nat)/\ad [] w w'
 |f,j,m,w,R,P=>by
  apply L100_0_ok;obtain⟨kv,ov,av,pv,lv,hv,F⟩:=ar_f R P.nd;obtain⟨g,A,k,p,q,u⟩:=P.ol F n;have f8:=F.ld.2.2.1;by_cases e:j<(a.ops.getD i []).length
  ·obtain⟨b,o,x,y⟩:=u j e;have d:(j:Int)<(a.ops.getD i []).length:=dy;simp only[L100_0,ptr,ae,ac,sZ,ld_70,oe,mD,f8,p,q,x,y,aU,d,decide_true,zS];refine(c_refMay _ w).mono ?_;rintro _ w1 ⟨rfl,l⟩;cases r:jz (a.ops.getD i [])[j]with
   |true=>
    simp only[ac,zS];exact⟨by rw[aheadN_eq e r],l⟩
   |false=>
    have z:IntKind.i64.wrap ((j:Int)+1)=((j+1:Nat):Int):=by rw[ap dy dy];omega
    simp only[ac,aj,z,zS];match f,m with
    |0,m=>omega
    |f+1,m=>
    refine Part.mono (l_ahead n t f (j+1) dy (R.aw l) (P.aw R l)) λv w' s=>?_;exact⟨by rw[aheadN_next e r];exact s.1,l.trans s.2⟩
  ·have d:¬(j:Int)<(a.ops.getD i []).length:=dy;simp only[L100_0,ptr,ae,ac,sZ,ld_70,oe,mD,f8,p,q,aU,d,decide_false,zS];exact⟨by rw[aheadN_end e],ad.refl _ _⟩
theorem c_ahead(R:Rel w T)(P:oM w T ab h c a dY dB){i:Nat}(f:i<cW c)(k:(a.ops.getD i []).length<=100000)(b:0<=a.at'.getD i 0/\a.at'.getD i 0<=(a.ops.getD i []).length):aa prog 100 [ptr ab,bS i] w λv w'=>v=bS (eE a i:Nat)/\ad [] w w':=by
 apply F100_ok;obtain⟨kv,ov,av,pv,lv,hv,F⟩:=ar_f R P.nd;obtain⟨g,l,d,_⟩:=ar_at R P.nd F (i:=i) (by show i<a.at'.length;rw[P.n4];exact f);have m:=F.ld.2.2.2.1;obtain⟨n,j⟩:∃n:Nat,a.at'.getD i 0=n:=⟨(a.at'.getD i 0).toNat,(du b.1).symm⟩
 have d:ao (hp w g) i=some (bS n):=by rw[<- j];exact d
 simp only[F100,ptr,ae,ac,fa_78_4,aH,ag,m,l,d];have e:eE a i=oE (a.ops.getD i []) n:=by rw[eE,j,cq]
 rw[e];exact l_ahead f k ((a.ops.getD i []).length+1-n) n dy R P
theorem oM.busy(P:oM w T ab h c a dY dB)(R:Rel w T){i:Nat}(d:i<cW c):ao (hp w (dY.getD i 0)) (0+5)=some (.bool (a.ks.getD i aI).busy):=by
 obtain⟨b,sb,lb,hv,p1,p2,p3,p4,p5,p6,p7,hT,_⟩:=P.wk i d;exact(kO R hT).busy
theorem c_Left(R:Rel w T)(P:oM w T ab h c a dY dB)(N:gM c)(x:Int)(C:∀i,i<cW c->(a.ops.getD i []).length<=100000)(p:∀i,i<cW c->0<=a.at'.getD i 0/\a.at'.getD i 0<=(a.ops.getD i []).length):aa prog 99 [ptr ab,bS x] w λv w'=>v= .bool (hM c a x)/\ad [] w w':=by
 apply F99_ok;obtain⟨kv,ov,av,pv,lv,hv,F⟩:=ar_f R P.nd;obtain⟨O,t,f8,Q,D,E,G,H,f0⟩:=F.ld;have b:=(ad.refl [] w).drew;by_cases f:0<=x
 ·have k:x>=0:=f;by_cases j:x<c.1
  ·obtain⟨i,I⟩:∃i:Nat,x=i:=⟨x.toNat,(du f).symm⟩
   subst I;have S:=N.n1;have g:i<cW c:=dy;obtain⟨U,u,lk⟩:=P.kbl F g;have fb:=P.busy R g;obtain⟨l,A,kk,q,n,_⟩:=P.ol F g;cases hb:(a.ks.getD i aI).busy with
   |true=>
    rw[hb]at fb;have e:hM c a (i:Nat)=true:=by
     unfold hM;rw[cj f,cj j,cq,hb];rfl
    rw[e];simp only[F99,ptr,ae,ac,fa_78_0,mC,bj,eS,ag,aB,ld_75,si,f0,t,u,lk,fb,pf,aU,k,j,decide_true,zS];exact⟨⟨⟨by trivial,b⟩,by trivial,b⟩,by trivial,b⟩
   |false=>
    rw[hb]at fb;have e:hM c a (i:Nat)=decide (eE a i<(a.ops.getD i []).length):=by
     unfold hM;rw[cj f,cj j,cq,hb];rfl
    rw[e];simp only[F99,ptr,ae,ac,fa_78_0,mC,sZ,bj,eS,ag,aB,ld_75,si,ld_70,oe,mD,f0,t,f8,u,lk,q,n,fb,pf,aU,k,j,decide_true,zS];refine⟨⟨?_,?_⟩,?_⟩;all_goals
     refine(c_ahead (R.aw b) (P.aw R b) g (C i g) (p i g)).mono ?_;rintro _ w1 ⟨rfl,J⟩;have d:=b.trans J;have y:=F.aw R P.nd d;obtain⟨_,_,r,_⟩:=y.ld;have s:ao (hp w1 l) i=some (.slice A (a.ops.getD i []).length kk):=by
      obtain⟨V,W,k2,z,X,_⟩:=(P.aw R d).ol y g;rw[q]at z;cases z;have K:ao (hp w1 l) i=ao (hp w l) i:=by
       obtain⟨o,m⟩:∃o,hp w l=some o:=by
        cases L:hp w l with
        |none=>rw[L]at n;cases n
        |some o=>exact⟨o,rfl⟩
       rw[m,d.at m (by simp)]
      rw[K];exact n
     have M:decide ((eE a i:Int)<(a.ops.getD i []).length)=decide (eE a i<(a.ops.getD i []).length):=by
      by_cases B:eE a i<(a.ops.getD i []).length
      ·rw[cj B,cj dy]
      ·rw[cr B,cr dy]
     try simp only[ac,oe,mD,r,q,s,aU,M]
     exact⟨by first|rfl|trivial,d⟩
  ·have e:hM c a x=false:=by
    unfold hM;rw[cj f,cr j];rfl
   rw[e];simp only[F99,ptr,ae,ac,fa_78_0,eS,ag,f0,pf,aU,k,j,decide_true,decide_false,zS];exact⟨⟨⟨by trivial,b⟩,by trivial,b⟩,by trivial,b⟩
 ·have k:¬x>=0:=f;have e:hM c a x=false:=by
   unfold hM;rw[cr f];rfl
  rw[e];simp only[F99,ptr,ac,pf,k,decide_false,zS];exact⟨⟨⟨by trivial,b⟩,by trivial,b⟩,by trivial,b⟩
end
end Go.Proofs.YtnpflajdbchghaaGreat
