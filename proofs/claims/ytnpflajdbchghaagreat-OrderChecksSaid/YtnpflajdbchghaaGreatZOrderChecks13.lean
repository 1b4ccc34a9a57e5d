/- Parts of the proof of OrderChecks, one behind the other. Conditions: none. -/
import Derived.Test.YtnpflajdbchghaaGreatZOrderChecks12
set_option linter.unusedSimpArgs false
set_option linter.unusedVariables false
set_option maxHeartbeats 4000000
set_option maxRecDepth 10000
noncomputable section
namespace Go.Proofs.YtnpflajdbchghaaGreat
open Tryz(prog)
open Go Ev Go.RowKit
section
variable{w w1 w2 w':World}{T T1 T2 T':dH}{h:Hm}{c:cx}{m m':bd}{o o' b sb lb k ab:Nat}{es es':List TypeId}{su:lC}{a a':AlV}{tv gv:Value}
theorem aA{A A':Array Value}{t e:TypeId}{x:Value}{j:Nat}(R:Rel w T)(hT:T b=some (.st o e (A.toList.map fF.v)))(c:(Tryz.prog.info? t).map (·.size)=some 1)(one:x.cells= #[x]/\x.oneCell'=true)(a:A.setIfInBounds j x=A')(g:j<A.size){L:World->Prop}
  (d:∀w' T',Gx (λq=>q=b) w T w' T'->T' b=some (.st o e (A'.toList.map fF.v))->(∀ q,q≠b->T' q=T q)->bl (λq=>q=b) w w'->L w'):ck prog (Instr.storeAt t (.pointer (some ⟨b,j,none⟩)) x) w L:=by
 have hb:hp w b=some (.cells A e):=R.kK hT;rw[mv c one.1 one.2 (by rw[hb,bq];exact cr dB),hb,aB,au,a];exact d _ _ (Gx.putv R hT A'.toList) ax (λq f=>aC f) (bl.put _ _ _ _)
theorem nd_l{A:Array Value}{e:TypeId}(R:Rel w T)(hT:T b=some (.st o e (A.toList.map fF.v)))(j:Nat):an (hp w b) j=A[j]? :=by
 have hb:hp w b=some (.cells A e):=R.kK hT;rw[hb,aN]
def qT(b:Nat)(a:AlV)(tv gv:Value):Array Value:= #[ptr b,bN a.slot,bN a.gen,bN a.n,bN a.at',bN a.steps,bN a.point,bN a.need,bN a.held,bN a.zero,bR a.old,tv,gv,bN a.code,bN a.h.1,bN a.h.2.1,bN a.h.2.2.1,bN a.h.2.2.2.1,bN a.h.2.2.2.2,.bool a.dry,.bool a.done]
def alN(o b:Nat)(a:AlV)(tv gv:Value):Nod:= .st o 237 ((qT b a tv gv).toList.map fF.v)
structure AlF(w:World)(ab b:Nat)(a:AlV)(tv gv:Value):Prop where
 s:an (hp w ab) (0+0)=some (ptr b)
 slot:an (hp w ab) (0+1)=some (bN a.slot)
 gen:an (hp w ab) (0+2)=some (bN a.gen)
 n:an (hp w ab) (0+3)=some (bN a.n)
 at':an (hp w ab) (0+4)=some (bN a.at')
 steps:an (hp w ab) (0+5)=some (bN a.steps)
 need:an (hp w ab) (0+7)=some (bN a.need)
 held:an (hp w ab) (0+8)=some (bN a.held)
 zero:an (hp w ab) (0+9)=some (bN a.zero)
 old:an (hp w ab) (0+10)=some (bR a.old)
 t:an (hp w ab) (0+11)=some tv
 g:an (hp w ab) (0+12)=some gv
 dry:an (hp w ab) (0+19)=some (.bool a.dry)
 done:an (hp w ab) (0+20)=some (.bool a.done)
theorem nY(R:Rel w T)(hT:T ab=some (alN o b a tv gv)):AlF w ab b a tv gv:=by
 have hb:hp w ab=some (.cells (qT b a tv gv) 237):=R.kK hT;constructor<;>rw[hb]<;>rfl
def AlR(w:World)(T:dH)(o ab b:Nat)(h:Hm)(a:AlV):Prop:=∃x y,T ab=some (alN o b a (.pointer x) (.pointer y))/\(a.at'=2->a.done=false->∃tb,x=some ⟨tb,0,none⟩/\TkR T o tb b h a.t)/\(a.at'=6->a.done=false->∃c,y=some ⟨c,0,none⟩/\GiR w T o c h a.g)
def alT:List TypeId:= [258,262,279,270,282,293,237]
def clT:List TypeId:= [258,262,237]
theorem c_Alloc(R:Rel w T)(slot gen n:Int)(o:Nat):aa prog 139 [ptr b,bN slot,bN gen,bN n] w λv w'=>∃ab T',v=ptr ab/\Gx (λ_=>False) w T w' T'/\AlR w' T' o ab b h (alNew slot gen n):=by
 apply F139_ok;have a:ai prog (Instr.build 237 #[(0,ptr b),(1,bN slot),(2,bN gen),(3,bN n),(8,bN (-1))])=some (.agg (qT b (alNew slot gen n) (.pointer none) (.pointer none))):=bd_237_0_1_2_3_8;simp only[F139,a,ak,aq,ac];have g:=Gx.pR (S:=λ_=>False) R o 237 (qT b (alNew slot gen n) (.pointer none) (.pointer none)).toList;exact⟨w.heap.size,_,rfl,g,none,none,ax,(λh=>by cases h),λh=>by cases h⟩
theorem c_closes(N:gG c)(R:Rel w T)(H:dG T h c m)(ho:o≠0)(U:fN w T o b sb lb h c su)(O:qS su)(V:su.st.length+1<=100000)(a4: -1<=a.held){x y:Option Addr}(hT:T ab=some (alN o b a (.pointer x) (.pointer y))):
  aa prog 215 [ptr ab] w λv w'=>v= .tuple #[]/\∃T',Gx (SO T o clT) w T w' T'/\fN w' T' o b sb lb h c (gQ c.2.2.2.2.1 su a).1/\AlR w' T' o ab b h (gQ c.2.2.2.2.1 su a).2:=by
 apply F215_ok;have F:=nY R hT;have rest:∀(w1:World) (T1:dH) (f:lC),Gx (SO T o clT) w T w1 T1->fN w1 T1 o b sb lb h c f->qS f->T1 ab=some (alN o b {a with held:= -1} (.pointer x) (.pointer y))->
   gQ c.2.2.2.2.1 su a=((fg c.2.2.2.2.1 f).2,{a with held:= -1,g:=ir (fg c.2.2.2.2.1 f).1,at':=6,done:=decide ((fg c.2.2.2.2.1 f).1.length=0)})->
   P215_0 (ptr ab) w1 λv w'=>v= .tuple #[]/\∃T',Gx (SO T o clT) w T w' T'/\fN w' T' o b sb lb h c (gQ c.2.2.2.2.1 su a).1/\AlR w' T' o ab b h (gQ c.2.2.2.2.1 su a).2:=by
  intro w1 T1 f L U1 O1 t e;apply L215_0_ok;have F1:=nY L.rel t;have H1:=H.so L ho;simp only[L215_0,ptr,ae,ac,pr,jD,F1.s];refine(c_Spill N L.rel H1 ho U1 O1).mono ?_;rintro _ w2 ⟨z,T2,rfl,i,D,G2⟩;have d:=i.off ab _ t (SO.un t (.inr dC));have A:Gx (SO T o clT) w T w2 T2:=SO.then L i dC
  simp only[ac,fa_237_12];refine aA (A':=qT b {a with held:= -1} (.pointer x) (ptr z)) i.rel d sz_235 ⟨rfl,rfl⟩ rfl (by show 12<21;omega) λw3 T3 E B _ _=>?_;simp only[ac,hM];refine aA (A':=qT b {a with held:= -1,at':=6} (.pointer x) (ptr z)) E.rel B aE ⟨rfl,rfl⟩ rfl (by show 4<21;omega) λW T4 M r _ _=>?_;have F4:=nY M.rel r;have G:=E.trans M;have X:=(G:Gx (λq=>q=ab) w2 T2 W T4)
  have G4:=G2.gx X (by obtain⟨q,v,I,_⟩:=G2;exact ay I d dC) (λq cs I=>ay I d dC);have Y:=G4;obtain⟨q4,v4,J,_⟩:=G4;have d4:an (hp W z) (0+2)=some (.bool (ir (fg c.2.2.2.2.1 f).1).done):=by rw[nd_l M.rel J];rfl
  have Z:an (hp W ab) (0+12)=some (bS z):=F4.g;simp only[ae,zS,pw,mG,ld_235,az,Z,d4];refine aA (A':=qT b {a with held:= -1,at':=6,done:=(ir (fg c.2.2.2.2.1 f).1).done} (.pointer x) (ptr z)) M.rel r m8 ⟨rfl,rfl⟩ rfl (by show 20<21;omega) λw5 T5 g5 a1 _ _=>?_;have K:=G.trans g5;rw[e];refine⟨by first|rfl|trivial,T5,SO.then A (SO.one (es:= [237]) d dC K) dC,D.gx K (ay D.n d dC) (by obtain⟨_,hs,_⟩:=D.s;exact ay hs d dC) (by obtain⟨_,hs,_⟩:=D.l;exact ay hs d dC),x,some ⟨z,0,none⟩,a1,(λh=>by cases h),λ_ _=>⟨z,rfl,?_⟩⟩;exact Y.gx g5 (ay J r dC) (λq cs I=>ay I r dC)
 by_cases P:0<=a.held
 ·obtain⟨u0,u1,u2⟩:=pU R U;have Q:ad [] w w.drew:=(ad.refl [] w).drew;have Ud:=U.aF Q;simp only[F215,ptr,ae,zS,pr,kV,nx,jD,tD,ag,F.s,F.held,u1,P,bs_22_1];generalize C:w.drew.alloc _=w1;have S:ad [] w.drew w1:=by rw[<- C];exact(ad.refl _ _).alloc _
  have hn:hp w1 w.drew.heap.size=some (.cells #[bN a.held] 3):=by rw[<- C,af,bU rfl]
  clear C;have R1:=(R.aF Q).aF S;have L1:kL w1 T (.slice (some ⟨w.drew.heap.size,0,none⟩) 1 1) [a.held]:=⟨_,1,rfl,cy _,λj u hj=>by
   have a2:j=0:=by have:=(bY.1 hj).1;simp[ints]at this;omega
   subst a2;simp[ints]at hj;subst hj;exact⟨_,rfl,by rw[eL,fT,hn];rfl⟩,λp hp _=>by cases hp;exact(R.aF Q).fresh (cy _)⟩
  have a5:=O.s;refine(c_StGive R1 (Ud.aF S).s L1 (by simp;omega)).mono ?_;rintro _ w2 ⟨T2,i,S2⟩;obtain⟨i,D⟩:=(Ud.aF S).setS i S2;have d:=i.off ab _ hT (SO.un hT (.inr dC));have A:Gx (SO T o clT) w T w2 T2:=((Gx.bL R (Q.trans S)).trans (i.mono λk ⟨e,cs,p,q⟩=>⟨e,cs,p,by rw[db.1 q];decide⟩))
  try simp only[ae,ac,kV]
  refine aA (A':=qT b {a with held:= -1} (.pointer x) (.pointer y)) i.rel d aE ⟨rfl,rfl⟩ rfl (by show 8<21;omega) λw3 T3 E B _ _=>?_;have a3:=SO.then A (SO.one (es:= [237]) d dC E) dC
  have U3:=D.so (SO.one (es:= [237]) d dC E) (.inr dC);refine rest w3 T3 (qA su [a.held]) a3 U3 ⟨by simp only[qA,cq,List.length_singleton];exact V,O.l⟩ B ?_;rw[gQ,bU P]
 ·have ea:a.held= -1:=dB;have e1:({a with held:= -1}:AlV)=a:=by rw[<- ea]
  simp only[F215,ptr,ae,zS,kV,ag,F.held,P];refine rest w T su (Gx.refl R) U O (by rw[e1];exact hT) ?_;rw[gQ,bV P]
end
section
variable{w w1 w2 w':World}{T T1 T2 T':dH}{h:Hm}{c:cx}{m m':bd}{o o' b sb lb k ab tb:Nat}{es es':List TypeId}{su:lC}{a a':AlV}{tv gv:Value}
theorem nd_ws{A A':Array Value}{t e:TypeId}{x:Value}{j n:Nat}(R:Rel w T)(hT:T b=some (.st o e (A.toList.map fF.v)))(c:(Tryz.prog.info? t).map (·.size)=some n)(one:x.cells.size=n/\x.cells.toList.all (·.oneCell')=true/\0<n)(a:m7 A j x.cells.toList=A')(d:j+n<=A.size){L:World->Prop}
  (f:∀w' T',Gx (λq=>q=b) w T w' T'->T' b=some (.st o e (A'.toList.map fF.v))->(∀ q,q≠b->T' q=T q)->bl (λq=>q=b) w w'->L w'):ck prog (Instr.storeAt t (.pointer (some ⟨b,j,none⟩)) x) w L:=by
 have hb:hp w b=some (.cells A e):=R.kK hT;rw[kq c one.1 one.2.1 one.2.2 (by rw[hb,bq];exact cr d),hb,aB,au,a];exact f _ _ (Gx.putv R hT A'.toList) ax (λq g=>aC g) (bl.put _ _ _ _)
theorem lS(U:fN w T o b sb lb h c su)(hT:T ab=some (alN o b a tv gv))(g:Gx (λq=>q=ab) w T w' T'):fN w' T' o b sb lb h c su:=
 U.gx g (ay U.n hT dC) (by obtain⟨_,d,_⟩:=U.s;exact ay d hT dC) (by obtain⟨_,d,_⟩:=U.l;exact ay d hT dC)
theorem c_fine(N:gG c)(R:Rel w T)(H:dG T h c m)(r:o≠0)(U:fN w T o b sb lb h c su)(O:qS su)(f:su.st.length+1<=100000)(g: -1<=a.held){x y:Option Addr}(hT:T ab=some (alN o b a (.pointer x) (.pointer y)))(d off:Int):
  aa prog 185 [ptr ab,bN d,bN off] w λv w'=>v= .tuple #[]/\∃T',Gx (SO T o clT) w T w' T'/\fN w' T' o b sb lb h c (oW c.2.2.2.2.1 su a d off).1/\AlR w' T' o ab b h (oW c.2.2.2.2.1 su a d off).2:=by
 apply F185_ok;have F:=nY R hT;have i:ad [] w w.drew:=(ad.refl [] w).drew;have j:ai prog (Instr.build 32 #[(0,bN a.slot),(1,bN a.gen),(2,bN d),(3,bN off),(4,bN a.n)])=some (.agg #[bN a.slot,bN a.gen,bN d,bN off,bN a.n]):=bd_32_0_1_2_3_4;simp only[F185,ptr,ae,ac,zS,fa_237_1,fa_237_2,fa_237_3,fa_237_5,fa_237_14,ag,F.slot,F.gen,F.n,F.steps,j];refine nd_ws (A':=qT b {a with h:=(a.slot,a.gen,d,off,a.n)} (.pointer x) (.pointer y)) (R.aF i) hT lP ⟨rfl,rfl,dC⟩ rfl (by show 14+5<=21;omega) λw1 T1 k l _ _=>?_;simp only[ac,fa_237_6];refine aA (A':=qT b {a with h:=(a.slot,a.gen,d,off,a.n),point:=a.steps} (.pointer x) (.pointer y)) k.rel l aE ⟨rfl,rfl⟩ rfl (by show 6<21;omega) λw2 T2 p q _ _=>?_;have e:Gx (SO T o clT) w T w2 T2:=(Gx.bL R i).trans (SO.one (es:=clT) hT dC (k.trans p));refine(c_closes (a:={a with h:=(a.slot,a.gen,d,off,a.n),point:=a.steps}) N p.rel (H.so e r) r (lS (U.aF i) hT (k.trans p)) O f g q).mono ?_;rintro _ A ⟨rfl,s,t,u,z⟩;try simp only[ae,ac]
 exact⟨by first|rfl|trivial,s,SO.then e t (λ_ h=>h),u,z⟩
theorem c_taken(R:Rel w T){y:Option Addr}(hT:T ab=some (alN o b a (bS tb) (.pointer y)))(K:TkR T o tb b h a.t):
  aa prog 188 [ptr ab] w λv w'=>v= .tuple #[]/\∃T',Gx (λq=>q=ab) w T w' T'/\AlR w' T' o ab b h (mr a):=by
 apply F188_ok;have F:=nY R hT;obtain⟨z,j,_⟩:=K;obtain⟨_,_,_,k2,_⟩:=ta R j;by_cases f:a.t.chunk<0
 ·simp only[F188,ptr,ae,ac,zS,sG,fa_237_15,fa_279_2,ag,ld_234,F.t,k2,f];refine aA (A':=qT b {a with dry:=true} (bS tb) (.pointer y)) R hT m8 ⟨rfl,rfl⟩ rfl (by show 19<21;omega) λw1 T1 e c _ _=>?_;simp only[ac,hM];refine aA (A':=qT b {a with dry:=true,at':=0} (bS tb) (.pointer y)) e.rel c aE ⟨rfl,rfl⟩ rfl (by show 4<21;omega) λw2 T2 g d _ _=>?_;refine⟨by first|rfl|trivial,T2,e.trans g,?_⟩;rw[mr,bU f];exact⟨_,_,d,(λh=>by cases h),λh=>by cases h⟩
 ·simp only[F188,ptr,ae,ac,zS,sG,kV,fa_279_2,ag,ld_234,F.t,k2,f];refine aA (A':=qT b {a with held:=a.t.chunk} (bS tb) (.pointer y)) R hT aE ⟨rfl,rfl⟩ rfl (by show 8<21;omega) λw1 T1 e c _ _=>?_;simp only[ac,fa_237_9];refine aA (A':=qT b {a with held:=a.t.chunk,zero:=0} (bS tb) (.pointer y)) e.rel c aE ⟨rfl,rfl⟩ rfl (by show 9<21;omega) λw2 T2 g d _ _=>?_;simp only[ac,hM];refine aA (A':=qT b {a with held:=a.t.chunk,zero:=0,at':=3} (bS tb) (.pointer y)) g.rel d aE ⟨rfl,rfl⟩ rfl (by show 4<21;omega) λm k l i _ _=>?_;refine⟨by first|rfl|trivial,k,(e.trans g).trans l,?_⟩;rw[mr,bV f];exact⟨_,_,i,(λh=>by cases h),λh=>by cases h⟩
def snT:List TypeId:= [258,262,279,237]
theorem rt_box{x:Value}{r:RtV}{K:Value->World->Prop}(a:∀q w',w.heap.size<=q->ad [] w w'->hp w' q=some (.cells (lN r) 231)->K (bS q) w'):
  cP prog (Instr.alloc 231 true x) w λt w1=>ck prog (Instr.storeAt 231 t (.agg (lN r))) w1 λw2=>K t w2:=by
 rw[tE];have b:hp (w.alloc (.cells (lN ⟨0,0,0,0⟩) 231)) w.heap.size=some (.cells (lN ⟨0,0,0,0⟩) 231):=by rw[af,bU rfl]
 have c:ad [] w (w.alloc (.cells (lN ⟨0,0,0,0⟩) 231)):=(ad.refl _ _).alloc _;have e:(w.alloc (.cells (lN ⟨0,0,0,0⟩) 231)).heap.size=w.heap.size+1:=ah _ _;generalize d:w.alloc (.cells (lN ⟨0,0,0,0⟩) 231)=w1 at*;show ck prog (Instr.storeAt 231 (bS w.heap.size) (.agg (lN r))) (w.alloc (.cells (lN ⟨0,0,0,0⟩) 231)) _;rw[d,st_rt b rfl];exact a _ _ (cy _) (c.put (.inr (cy _)) _ _) (ar dB _ _)
theorem rt_l{q:Nat}{r:RtV}{e:TypeId}(hb:hp w q=some (.cells (lN r) e)):an (hp w q) (0+0)=some (bN r.gen)/\an (hp w q) (0+1)=some (bN r.mark)/\an (hp w q) (0+2)=some (bN r.cls)/\an (hp w q) (0+3)=some (bN r.off):=by
 rw[hb];exact⟨rfl,rfl,rfl,rfl⟩
theorem c_seen(N:gG c)(R:Rel w T)(H:dG T h c m)(Q:o≠0)(U:fN w T o b sb lb h c su)(O:qS su)(X:su.st.length+1<=100000)(Y: -1<=a.held)(hu:sR a.old){x y:Option Addr}(hT:T ab=some (alN o b a (.pointer x) (.pointer y))):
  aa prog 183 [ptr ab] w λv w'=>v= .tuple #[]/\∃T',Gx (SO T o snT) w T w' T'/\fN w' T' o b sb lb h c (mf c su a).1/\AlR w' T' o ab b h (mf c su a).2:=by
 apply F183_ok;have F:=nY R hT;simp only[F183,ptr,ae,ac,fa_237_10,br,F.old];refine(iO hu).mono ?_;rintro _ w1 ⟨rfl,c1⟩;refine rt_box λq w2 hq c2 Z=>?_;have cd:ad [] w2 w2.drew:=(ad.refl [] w2).drew;have a2:=c1.trans c2;have F2:=nY (R.aF a2) hT;have a9:T q=none:=(R.aF c1).fresh hq;simp only[ac,zS,fa_237_2,ag,F2.gen,sf (w:=w2.drew) Z];refine(c_Live (aP a.old) a.gen).mono ?_;rintro _ w3 ⟨rfl,c3⟩;have I:=(a2.trans cd).trans c3;have a3:=c3.at (cd.at Z (by simp)) (by simp);have R3:=R.aF I;have F3:=nY R3 hT;have U3:=U.aF I;have a4:Gx (SO T o snT) w T w3 T:=Gx.bL R I;obtain⟨r0,r1,r2,r3⟩:=rt_l a3;cases hl:ma (aP a.old) a.gen with
 |false=>
  simp only[ac,zS,fa_237_5,sH,ag,F3.steps];refine aA (A':=qT b {a with code:=3} (.pointer x) (.pointer y)) R3 hT sz_30 ⟨rfl,rfl⟩ rfl (by show 13<21;omega) λJ T4 j d _ _=>?_;simp only[ac,fa_237_6];refine aA (A':=qT b {a with code:=3,point:=a.steps} (.pointer x) (.pointer y)) j.rel d aE ⟨rfl,rfl⟩ rfl (by show 6<21;omega) λp r l f _ _=>?_;have C:Gx (SO T o snT) w T p r:=a4.trans (SO.one (es:=snT) hT dC (j.trans l));refine(c_closes (a:={a with code:=3,point:=a.steps}) N l.rel (H.so C Q) Q (lS U3 hT (j.trans l)) O X Y f).mono ?_;rintro _ w6 ⟨rfl,T6,G,U6,A6⟩;try simp only[ae,ac]
  rw[mf,bU hl];exact⟨by first|rfl|trivial,T6,SO.then C G dC,U6,A6⟩
 |true=>
  have D:ad [] w3 w3.drew:=(ad.refl [] w3).drew;simp only[ac,zS,fa_231_2,fa_237_3,ag,F3.n,r2];refine(c_rRound (aP a.old).cls a.n _).step ?_;simp only[ac,rC];generalize b1:bF (aP a.old).cls a.n=need;refine aA (A':=qT b {a with need:=need} (.pointer x) (.pointer y)) (R3.aF D) hT aE ⟨rfl,rfl⟩ rfl (by show 7<21;omega) λJ T4 j d b4 c4=>?_;have F4:=nY j.rel d;have b2:hp J q=some (.cells (lN (aP a.old)) 231):=(j.loc (D.at a3 (by simp)) a9).1;obtain⟨r0,r1,r2,r3⟩:=rt_l b2;have U4:=lS (U3.aF D) hT j;have A:Gx (SO T o snT) w T J T4:=(a4.trans (Gx.bL R3 D)).trans (SO.one (es:=snT) hT dC j);have H4:=H.so A Q;obtain⟨u0,_,_⟩:=pU j.rel U4;have a5:an (hp J h.wb) (0+0+2)=some (bN c.2.2.1):=by rw[j.rel.kK H4.wT];rfl
  have i:ad [] J J.drew:=(ad.refl [] J).drew;have fin:∀(a1:AlV) (p:World) (r:dH) (K:lC) (x1:Option Addr),Gx (SO T o snT) w T p r->fN p r o b sb lb h c K->r ab=some (alN o b a1 (.pointer x1) (.pointer y))->a1.at'≠2->a1.at'≠6->mf c su a=(K,a1)->
    (Value.tuple #[]=Value.tuple #[]/\∃T',Gx (SO T o snT) w T p T'/\fN p T' o b sb lb h c (mf c su a).1/\AlR p T' o ab b h (mf c su a).2):=by
   intro a1 p r K x1 g U5 f n2 n6 e;rw[e];exact⟨rfl,r,g,U5,x1,y,f,λh=>absurd h n2,λh=>absurd h n6⟩
  have u:mf c su a=(if 2<=(aP a.old).mark/\lQ c.2.2.1 (aP a.old).off need then(su,{a with need:=need,at':=1})
   else if 0<=a.held then(su,{a with need:=need,at':=4})
   else if a.dry then gQ c.2.2.2.2.1 su {a with need:=need,code:=6,point:=a.steps}
   else if(jU c su).2.done then((jU c su).1,mr {a with need:=need,t:=(jU c su).2,at':=2})else((jU c su).1,{a with need:=need,t:=(jU c su).2,at':=2})):=by
   rw[mf,bV (by rw[hl];decide),<-b1]
  by_cases hP:2<=(aP a.old).mark/\lQ c.2.2.1 (aP a.old).off need=true
  ·rw[bU hP]at u;obtain⟨V,hf⟩:=hP;simp only[ae,ac,ptr,zS,V,mC,pq,pr,rC,jb,bJ,eW,ag,jD,fW,r1,r3,F4.s,F4.need,u0,a5];refine(c_rFits2 _ _ _ _).step ?_;simp only[ac,zS,hf,hM];refine aA (A':=qT b {a with need:=need,at':=1} (.pointer x) (.pointer y)) (j.rel.aF i) d aE ⟨rfl,rfl⟩ rfl (by show 4<21;omega) λp r l f _ _=>?_;exact⟨by first|rfl|trivial,(fin _ p r su x (SO.then A ((Gx.bL j.rel i).trans (SO.one (es:=snT) d dC l)) (λ_ h=>h)) (lS (U4.aF i) d l) f (λh=>by cases h) (λh=>by cases h) u).2⟩
  ·rw[bV hP]at u;by_cases V:2<=(aP a.old).mark;all_goals
    first
    |(have b5:2<=(aP a.old).mark:=V
      have hf:lQ c.2.2.1 (aP a.old).off need=false:=by
       cases L:lQ c.2.2.1 (aP a.old).off need with
       |false=>rfl
       |true=>exact absurd ⟨V,L⟩ hP
      simp only[ae,ac,ptr,zS,V,mC,pq,pr,rC,jb,bJ,eW,ag,jD,fW,r1,r3,F4.s,F4.need,u0,a5];refine(c_rFits2 _ _ _ _).step ?_;simp only[ac,zS,hf,kV,ag,F4.held])
    |simp only[ac,zS,V,mC,kV,ag,r1,F4.held]
    by_cases L:0<=a.held
    ·rw[bU L]at u;simp only[ac,zS,L,hM];refine aA (A':=qT b {a with need:=need,at':=4} (.pointer x) (.pointer y)) (j.rel.aF i) d aE ⟨rfl,rfl⟩ rfl (by show 4<21;omega) λp r l f _ _=>?_;exact⟨by first|rfl|trivial,(fin _ p r su x (SO.then A ((Gx.bL j.rel i).trans (SO.one (es:=snT) d dC l)) (λ_ h=>h)) (lS (U4.aF i) d l) f (λh=>by cases h) (λh=>by cases h) u).2⟩
    ·rw[bV L]at u;cases hd:a.dry with
     |true=>
      rw[bU hd]at u;have Fd:=F4.dry;simp only[hd]at Fd;simp only[ac,zS,L,Fd,fa_237_15,fa_237_5,sH,ag,az,F4.steps];refine aA (A':=qT b {a with need:=need,code:=6} (.pointer x) (.pointer y)) (j.rel.aF i) d sz_30 ⟨rfl,rfl⟩ rfl (by show 13<21;omega) λp r l f _ _=>?_;simp only[ac,fa_237_6];refine aA (A':=qT b {a with need:=need,code:=6,point:=a.steps} (.pointer x) (.pointer y)) l.rel f aE ⟨rfl,rfl⟩ rfl (by show 6<21;omega) λw6 T6 G M _ _=>?_;have a6:Gx (SO T o snT) w T w6 T6:=SO.then A ((Gx.bL j.rel i).trans (SO.one (es:=snT) d dC (l.trans G))) (λ_ h=>h)
      refine(c_closes (a:={a with need:=need,code:=6,point:=a.steps}) N G.rel (H.so a6 Q) Q (lS (U4.aF i) d (l.trans G)) O X Y M).mono ?_;rintro _ w7 ⟨rfl,T7,W,U7,A7⟩;try simp only[ae,ac]
      rw[u];exact⟨by first|rfl|trivial,T7,SO.then a6 W dC,U7,A7⟩
     |false=>
      rw[bV (by rw[hd];decide)]at u;have Fd:=F4.dry;simp only[hd]at Fd;simp only[ac,zS,L,Fd,fa_237_15,pr,az,jD,F4.s];refine(c_Take N (j.rel.aF i) H4 Q (U4.aF i) O).mono ?_;rintro _ p ⟨tb,r,rfl,l,U5,K5⟩;have f:=l.off ab _ d (SO.un d (.inr dC));have b3:=(Gx.bL (S:=SO T4 o [258,279]) j.rel i).trans l;have C:Gx (SO T o snT) w T p r:=SO.then A b3 dC
      simp only[ac,ptr,sG];refine aA (A':=qT b {a with need:=need,t:=(jU c su).2} (bS tb) (.pointer y)) l.rel f sz_234 ⟨rfl,rfl⟩ rfl (by show 11<21;omega) λw6 T6 G M _ _=>?_;simp only[ac,hM];refine aA (A':=qT b {a with need:=need,t:=(jU c su).2,at':=2} (bS tb) (.pointer y)) G.rel M aE ⟨rfl,rfl⟩ rfl (by show 4<21;omega) λw7 T7 W B _ _=>?_;have P:=G.trans W;have U7:=lS U5 f P;have K7:TkR T7 o tb b h (jU c su).2:=K5.gx P λk e cs hk he q=>by subst q;rw[f]at hk;cases hk;revert he;decide
      have a7:=SO.then C (SO.one (es:=snT) f dC P) (λ_ h=>h)
      have F7:=nY W.rel B;have a8:=K7;obtain⟨z,hK,_⟩:=K7;obtain⟨_,_,_,_,_,_,k5⟩:=ta W.rel hK;cases E:(jU c su).2.done with
      |true=>
       rw[E]at k5;rw[bU E]at u;simp only[ae,ac,zS,jQ,ld_234,az,F7.t,k5];refine(c_taken (a:={a with need:=need,t:=(jU c su).2,at':=2}) W.rel B a8).mono ?_;rintro _ w8 ⟨rfl,T8,g8,A8⟩;try simp only[ae,ac]
       rw[u];exact⟨by first|rfl|trivial,T8,SO.then a7 (SO.one (es:=snT) B dC g8) (λ_ h=>h),lS U7 B g8,A8⟩
      |false=>
       rw[E]at k5;rw[bV (by rw[E];decide)]at u;simp only[ae,ac,zS,jQ,ld_234,az,F7.t,k5];rw[u];exact⟨by first|rfl|trivial,T7,a7,U7,_,_,B,(λ_ _=>⟨tb,rfl,a8⟩),λh=>by cases h⟩
end
section
variable{w w0 w1 w2 w':World}{T T1 T2 T':dH}{h:Hm}{c:cx}{m m':bd}{o o' b sb lb k ab tb q:Nat}{es es':List TypeId}{su:lC}{a a':AlV}{tv gv:Value}
structure ee(c:cx)(m:bd):Prop where
 len:m.length=kI c
 u:mU m
theorem lenM_le(N:gG c):kI c<=10000000:=by
 have d:=N.b1;have a:=N.b2;have b:=N.b3;have e:=N.b4;have:cC c*cK c<=4096*1024:=Nat.mul_le_mul a.2 b.2;unfold kI;omega
theorem ee.pool(M:ee c m)(N:gG c):StkOk (bB c) m:=by
 have a:=M.len;have:=lenM_le N;have b:=N.b2;refine⟨?_,?_,?_,dB,M.u⟩
 ·show 0<m.length;rw[a];unfold kI;omega
 ·show aLk c 0+cC c<=m.length;rw[a];unfold kI aLk;omega
 ·show cC c<=100000;omega
theorem ee.spare(M:ee c m)(N:gG c):StkOk (dF c) m:=by
 have a:=M.len;have:=lenM_le N;have b:=N.b4;refine⟨?_,?_,?_,dB,M.u⟩
 ·show 1<m.length;rw[a];unfold kI;omega
 ·show aSl c 0+cS c<=m.length;rw[a];unfold kI aSl;omega
 ·show cS c<=100000;omega
theorem ee.rt(M:ee c m){s:Nat}(a:s<cS c):iI c s<m.length:=by rw[M.len];unfold kI iI;omega
theorem ee.lk(M:ee c m){k:Nat}(a:k<cC c):aLk c k<m.length:=by rw[M.len];unfold kI aLk;omega
theorem ee.wd(M:ee c m){k i:Nat}(a:k<cC c)(b:i<cK c):aWd c k i<m.length:=by
 rw[M.len];unfold kI aWd;have:k*cK c+i<cC c*cK c:=by
  have:(k+1)*cK c<=cC c*cK c:=Nat.mul_le_mul_right _ a;rw[Nat.add_mul,Nat.one_mul]at this;omega
 omega
theorem ee.pin(M:ee c m){k:Nat}(a:k<cW c):fH c k<m.length:=by rw[M.len];unfold kI fH;omega
theorem ee.two(M:ee c m):2<m.length:=by rw[M.len];unfold kI;omega
theorem mQ(R:Rel w T)(H:dG T h c m):gi prog 25 (.pointer (some ⟨h.wb,0+0,none⟩)) w=some (.agg (dN c).toArray):=
 ldv_agg (n:=6) (e:=153) (c:=(homeL h c).toArray) ag_25 sz_25 (R.kK H.wT) (by rfl)
theorem mR(R:Rel w T)(H:dG T h c m):an (hp w h.wb) (0+6)=some (ptr h.mb)/\an (hp w h.wb) (0+0+2)=some (bN c.2.2.1)/\an (hp w h.wb) (0+7)=some (ptr h.pb)/\an (hp w h.wb) (0+8)=some (ptr h.sb)/\an (hp w h.wb) (0+9)=some (ptr h.eb):=by
 rw[R.kK H.wT];exact⟨rfl,rfl,rfl,rfl,rfl⟩
theorem nZ{a:Obj}(h:hp w q=some a):q<w.heap.size:=by
 by_cases b:q<w.heap.size
 ·exact b
 ·exfalso;have:w.heap[q]? =none:=Array.getElem?_eq_none dB;unfold hp at h;rw[this]at h;cases h
theorem SM.oZ(hT:T ab=some (alN o b a tv gv))(g:Gx (λq=>q=ab) w T w' T'):Gx (SM h T o alT) w T w' T':=SO.toM (SO.one (es:= [237]) hT dC g) dC
theorem rt_w1{r:RtV}{e:TypeId}{x:Int}{L:World->Prop}(hb:hp w q=some (.cells (lN r) e))(a:w0.heap.size<=q)(b:ad [] w0 w)(c:∀w',ad [] w0 w'->hp w' q=some (.cells (lN {r with mark:=x}) e)->L w'):ck prog (Instr.storeAt 3 (.pointer (some ⟨q,0+1,none⟩)) (bN x)) w L:=by
 have d:q<w.heap.size:=nZ hb;rw[gB (o:=0+1) rfl rfl (by rw[hb,bq];exact cr (by show 0+1+1<=4;omega)),hb,aB,au];exact c _ (b.put (.inr a) _ _) (ar d _ _)
theorem rt_w3{r:RtV}{e:TypeId}{x:Int}{L:World->Prop}(hb:hp w q=some (.cells (lN r) e))(a:w0.heap.size<=q)(b:ad [] w0 w)(c:∀w',ad [] w0 w'->hp w' q=some (.cells (lN {r with off:=x}) e)->L w'):ck prog (Instr.storeAt 3 (.pointer (some ⟨q,0+3,none⟩)) (bN x)) w L:=by
 have d:q<w.heap.size:=nZ hb;rw[gB (o:=0+3) rfl rfl (by rw[hb,bq];exact cr (by show 0+3+1<=4;omega)),hb,aB,au];exact c _ (b.put (.inr a) _ _) (ar d _ _)
structure AlOk(c:cx)(a:AlV):Prop where
 at':a.at'<=6
 slot:0<=a.slot/\a.slot<cS c
 steps:0<=a.steps/\a.steps<=1000000000
 need:0<=a.need/\a.need<=10000
 held: -1<=a.held/\a.held<cC c
 h3:3<=a.at'->a.at'<=5->0<=a.held
 zero:a.at'=3->0<=a.zero/\a.zero<cK c
 old:sR a.old
 t:a.at'=2->TkOk c a.t
 g:a.at'=6->s9 (bB c) a.g.p
theorem TkR.al{t:TkV}(K:TkR T o tb b h t)(hT:T ab=some (alN o b a tv gv))(g:Gx (λq=>q=ab) w T w' T'):TkR T' o tb b h t:=K.gx g λk e cs c d q=>by subst q;rw[hT]at c;cases c;revert d;decide
theorem GiR.al{x:GiV}{d:Nat}(G:GiR w T o d h x)(hT:T ab=some (alN o b a tv gv))(g:Gx (λq=>q=ab) w T w' T'):GiR w' T' o d h x:=
 G.gx g (by obtain⟨q,v,c,_⟩:=G;exact ay c hT dC) (λq cs c=>ay c hT dC)
theorem c_AlStep(N:gG c)(R:Rel w T)(H:dG T h c m)(j:o≠0)(M:ee c m)(U:fN w T o b sb lb h c su)(O:qS su)(l5:su.st.length+100<=100000)(A:AlR w T o ab b h a)(OA:AlOk c a):
  aa prog 146 [ptr ab] w λv w'=>v= .bool (!a.done)/\∃T',Gx (SM h T o alT) w T w' T'/\dG T' h c (ek c m su a).1/\fN w' T' o b sb lb h c (ek c m su a).2.1/\AlR w' T' o ab b h (ek c m su a).2.2:=by
 obtain⟨D,f7,d5⟩:∃D:Nat->Prop,(a.at'=1->D=λk=>T k≠none)/\(a.at'≠1->D=DM T h):=by
  by_cases h1:a.at'=1
  ·exact⟨_,λ_=>rfl,λh=>absurd h1 h⟩
  ·exact⟨_,λh=>absurd h h1,λ_=>rfl⟩
 apply F146_ok (D:=D);have A0:=A;obtain⟨x,y,hT,hx,hy⟩:=A;have F:=nY R hT;cases hd:a.done with
 |true=>
  have Fd:=F.done;rw[hd]at Fd;simp only[F146,ptr,ae,ac,pw,az,Fd,zS];rw[ek,bU hd];exact⟨by first|rfl|trivial,T,Gx.refl R,H,U,A0⟩
 |false=>
 have Fd:=F.done;rw[hd]at Fd;have os:=OA.steps;have l6:=OA.slot;have oh:=OA.held;have on:=OA.need;have b4:=N.b4;have b2:=N.b2;have b3:=N.b3;rw[F146];have ew:IntKind.i64.wrap (a.steps+1)=a.steps+1:=ap dB dB;simp only[ptr,ae,ac,pw,fa_237_5,az,ag,Fd,F.steps,aj,ew,zS];refine aA (A':=qT b {a with steps:=a.steps+1} (.pointer x) (.pointer y)) R hT aE ⟨rfl,rfl⟩ rfl (by show 5<21;omega) λw1 T1 g1 d a9 c1=>?_;have U1:=lS U hT g1;have E:=H.bP g1 hT j;have F1:=nY g1.rel d;obtain⟨u0,_,_⟩:=pU g1.rel U1;obtain⟨k6,k2,_⟩:=mR g1.rel E;have es:a.slot=((a.slot.toNat:Nat):Int):=dB;have fs:an (hp w1 ab) (0+1)=some (bN ((a.slot.toNat:Nat):Int)):=by rw[<- es];exact F1.slot
 simp only[ptr,ae,ac,zS,pr,fa_237_1,jb,bJ,jD,fW,ag,mQ (w:=w1.drew) (g1.rel.aF (ad.refl [] w1).drew) E,F1.s,fs,u0];refine(lE N (i:=a.slot.toNat) dB).mono ?_;rintro _ w2 ⟨rfl,c2⟩;have d6:=(ad.refl [] w1).drew.trans c2;have F2:=nY (g1.rel.aF d6) d;simp only[ac,zS,fa_237_10,br,F2.old];refine(iO OA.old).mono ?_;rintro _ w3 ⟨rfl,c3⟩;refine rt_box λq B hq c4 a1=>?_;have b8:=(d6.trans c3).trans c4;have a2:T1 q=none:=(g1.rel.aF (d6.trans c3)).fresh hq;have P:=g1.rel.aF b8;have F4:=nY P d;have U4:=U1.aF b8;have a3:Gx (SM h T o alT) w T B T1:=(SM.oZ hT g1).trans (Gx.bL g1.rel b8);have H4:=E;have k4:=a1;obtain⟨r0,r1,r2,r3⟩:=rt_l a1;have rb:=rt_bd OA.old;have l:ek c m su a=(if a.at'=0 then((m,mf c su {a with steps:=a.steps+1,old:=cf m (iI c a.slot.toNat)}):bd×lC×AlV)
  else if a.at'=1 then
   if cf m (iI c a.slot.toNat)=a.old then(m.set (iI c a.slot.toNat) (lB {aP a.old with off:=(aP a.old).off+a.need}),oW c.2.2.2.2.1 su {a with steps:=a.steps+1,at':=0} (ed (aP a.old)) (aP a.old).off)
   else(m,su,{a with steps:=a.steps+1,at':=0})
  else if a.at'=2 then
   ((eV c m su a.t).1,(eV c m su a.t).2.1,if(eV c m su a.t).2.2.done then mr {a with steps:=a.steps+1,t:=(eV c m su a.t).2.2}else{a with steps:=a.steps+1,t:=(eV c m su a.t).2.2})
  else if a.at'=3 then
   (m.set (aWd c a.held.toNat a.zero.toNat) 0,su,if a.zero+1=c.2.2.1 then{a with steps:=a.steps+1,zero:=a.zero+1,at':=4}else{a with steps:=a.steps+1,zero:=a.zero+1})
  else if a.at'=4 then(m.set (aLk c a.held.toNat) (ed (aP a.old)+1),su,{a with steps:=a.steps+1,at':=5})
  else if a.at'=5 then
   if cf m (iI c a.slot.toNat)=a.old then(m.set (iI c a.slot.toNat) (lB {aP a.old with mark:=a.held+2,off:=eC c.2.2.1 a.need}),oW c.2.2.2.2.1 su {a with steps:=a.steps+1,at':=0,held:= -1} a.held 0)
   else(m,su,{a with steps:=a.steps+1,at':=0})
  else((cO c m a.g).1,su,{a with steps:=a.steps+1,g:=(cO c m a.g).2,done:=(cO c m a.g).2.done})):=by
  rw[ek,bV (by rw[hd];decide)]
 have fin:∀(L:World) (Y:dH) (r:bd×lC×AlV),ek c m su a=r->Gx (SM h T o alT) w T L Y->dG Y h c r.1->fN L Y o b sb lb h c r.2.1->AlR L Y o ab b h r.2.2->P146_0 L (λv w'=>v= .bool (!false)/\∃T',Gx (SM h T o alT) w T w' T'/\dG T' h c (ek c m su a).1/\fN w' T' o b sb lb h c (ek c m su a).2.1/\AlR w' T' o ab b h (ek c m su a).2.2):=by
  rintro L Y r rfl h1 h2 h3 h4;apply L146_0_ok;exact⟨rfl,Y,h1,h2,h3,h4⟩
 have A7:a.at'=0\/a.at'=1\/a.at'=2\/a.at'=3\/a.at'=4\/a.at'=5\/a.at'=6:=by have:=OA.at';omega
 rcases A7 with q0|q0|q0|q0|q0|q0|q0
 . -- b1 root is read
  simp only[q0,reduceIte]at l;have C:an (hp B ab) (0+4)=some (bN 0):=by have t:an (hp B ab) (0+4)=some (bN (a.at':Nat)):=F4.at';rw[q0]at t;exact t
  obtain⟨k6,_⟩:=mR P E;simp only[ptr,ac,zS,hM,eZ,ag,bx,C,k6];refine(iR (a:=iI c a.slot.toNat) P E (M.rt dB)).mono ?_;rintro _ L ⟨rfl,_,Y,X,H5⟩;have U5:=U4.sm (o':=o) (es:= []) E (SM.mem X) j (.inr dC);have f:=X.off ab _ d (E.s8 d j);have a5:=SM.then a3 (SM.mem X) (λ_ h=>h)
  try simp only[ae,ac,fa_237_10]
  refine aA (A':=qT b {a with steps:=a.steps+1,old:=cf m (iI c a.slot.toNat)} (.pointer x) (.pointer y)) X.rel f sz_33 ⟨rfl,rfl⟩ rfl (by show 10<21;omega) λw6 T6 Q V _ _=>?_;refine(c_seen (a:={a with steps:=a.steps+1,old:=cf m (iI c a.slot.toNat)}) N Q.rel (H5.bP Q f j) j (lS U5 f Q) O dB (by show -1<=a.held;omega) (iw M.u _) V).mono ?_;rintro _ w7 ⟨rfl,T7,Z,U7,A7⟩;have b5:Gx (SM h Y o alT) L Y w6 T6:=SM.oZ f Q;have a6:=SM.then (SM.then a5 b5 (λ_ h=>h)) (SO.toM (h:=h) (es':=alT) Z dC) (λ_ h=>h)
  exact fin w7 T7 _ l a6 ((H5.bP Q f j).so Z j) U7 A7
 . -- k7 in b1 b9 chunk
  simp only[q0,reduceIte,Nat.one_ne_zero]at l;have C:an (hp B ab) (0+4)=some (bN 1):=by have t:an (hp B ab) (0+4)=some (bN (a.at':Nat)):=F4.at';rw[q0]at t;exact t
  have d7:T q=none:=by
   have hn:q≠ab:=λhh=>by rw[hh,d]at a2;cases a2
   rw[<- a9 q hn];exact a2
  have dq:D q=False:=by rw[f7 q0];show(T q≠none)=False;rw[d7];simp
  simp only[ac,zS,hM,ag,C,Int.reduceBEq,sf a1];refine rt_box λq2 L d1 c5 d8=>?_;have i3:hp L q=some (.cells (lN (aP a.old)) 231):=c5.at a1 (by simp);obtain⟨p0,p1,p2,p3⟩:=rt_l i3;have F5:=nY (P.aF c5) d;have ew:IntKind.i64.wrap ((aP a.old).off+a.need)=(aP a.old).off+a.need:=ap dB dB;simp only[ac,zS,rC,pq,ag,p3,F5.need,aj,ew];refine rt_w3 (w0:=B) (w:=L.drew) d8 d1 (c5.trans (ad.refl [] L).drew) λw6 c6 e1=>?_;simp only[ac,sf e1];refine(sS _).mono ?_;rintro _ w7 ⟨bb,rfl,c7⟩;have e2:=c6.trans c7;have R7:=P.aF e2;have U7:=U4.aF e2;try simp only[kG,kH,ac]
  refine aA (A':=qT b {a with steps:=a.steps+1,at':=0} (.pointer x) (.pointer y)) R7 d aE ⟨rfl,rfl⟩ rfl (by show 4<21;omega) λw8 T8 g8 a4 i4 c8=>?_;have H8:=E.bP g8 d j;have U8:=lS U7 d g8;have F8:=nY g8.rel a4;obtain⟨k6,_⟩:=mR g8.rel H8;have f9:Gx (SM h T1 o alT) B T1 w8 T8:=(Gx.bL P e2).trans (SM.oZ d g8);have e3:hp w8.drew q=some (.cells (lN (aP a.old)) 231)/\T8 q=none:=f9.loc a1 a2;obtain⟨p0,p1,p2,p3⟩:=rt_l e3.1;simp only[ptr,ac,zS,eZ,bx,k6,F8.old];have e4:=(ad.refl [] w8).drew;refine(c_CasD (a:=iI c a.slot.toNat) (g8.rel.aF e4) H8 (M.rt dB) a.old _).mono ?_;rintro _ w9 ⟨rfl,l7,T9,g9,H9,n9⟩;have U9:=(U8.aF e4).sm (o':=o) (es:= []) H8 (SM.mem g9) j (.inr dC);have a7:=g9.off ab _ a4 (H8.s8 a4 j);have g2:=(Gx.bL (S:=SM h T8 o alT) g8.rel e4).trans (SM.mem g9);have g3:=SM.then (SM.then a3 f9 (λ_ h=>h)) g2 (λ_ h=>h)
  have g4:=(g2.loc e3.1 e3.2).1;have d9:∀k,T9 k≠none->T k≠none:=by
   intro k hk hn;have h5:k≠ab:=λhh=>by rw[hh,hT]at hn;cases hn
   exact hk (n9 k (by rw[i4 k h5,a9 k h5];exact hn))
  by_cases hc:cf m (iI c a.slot.toNat)=a.old
  ·rw[bU hc]at l H9;simp only[ac,zS,hc,pS,dq,not_false_eq_true,true_and,sf (w:=w9.drew) g4,(rt_l g4).2.2.2];refine(c_Chunk (aP a.old) rb.2.1.2).mono ?_;rintro _ e5 ⟨rfl,h6⟩;refine⟨bG h6,?_⟩;have cc:=(ad.refl [] w9).drew.trans h6;refine(c_fine (a:={a with steps:=a.steps+1,at':=0}) N (g9.rel.aF cc) H9 j (U9.aF cc) O dB (by show -1<=a.held;omega) a7 (ed (aP a.old)) (aP a.old).off).mono ?_;rintro _ e6 ⟨rfl,e7,W,i5,i6⟩;refine⟨lF (by rw[f7 q0];exact W.aF.mono d9),?_⟩;have i7:=SM.then g3 ((Gx.bL g9.rel cc).trans (SO.toM (h:=h) (es':=alT) W dC)) (λ_ h=>h)
   exact fin e6 e7 _ l i7 (H9.so W j) i5 i6
  ·rw[bV hc]at l H9;simp only[zS,hc];exact fin w9 T9 _ l g3 H9 U9 ⟨x,y,a7,(λh=>by cases h),λh=>by cases h⟩
 . -- a chunk is i2 for
  have l:ek c m su a=((eV c m su a.t).1,(eV c m su a.t).2.1,if(eV c m su a.t).2.2.done then mr {a with steps:=a.steps+1,t:=(eV c m su a.t).2.2}else{a with steps:=a.steps+1,t:=(eV c m su a.t).2.2}):=by rw[l];simp[q0]
  have C:an (hp B ab) (0+4)=some (bN 2):=by have t:an (hp B ab) (0+4)=some (bN (a.at':Nat)):=F4.at';rw[q0]at t;exact t
  obtain⟨tb,rfl,K⟩:=hx q0 hd;have K1:=K.al hT g1;simp only[ac,zS,hM,sG,ag,ld_234,C,Int.reduceBEq,F4.t];refine(c_TkStep N P E j (M.pool N) M.two U4 O K1 (OA.t q0)).mono ?_;rintro _ L ⟨Y,X,H5,U5,K5⟩;have f:=X.off ab _ d (SM.un E d j (.inr dC));have a5:=SM.then a3 (X.mono λk hk=>hk.imp id fun⟨e,cs,p,q⟩=>⟨e,cs,p,(show∀e∈tkT,e∈alT by decide) e q⟩) (λ_ h=>h)
  have F5:=nY X.rel f;have h7:=K5;obtain⟨z,hK,_⟩:=K5;obtain⟨_,_,_,_,_,_,k5⟩:=ta X.rel hK;cases d2:(eV c m su a.t).2.2.done with
  |true=>
   rw[d2]at k5;rw[bU d2]at l;simp only[ae,ac,zS,jQ,az,F5.t,k5];refine(c_taken (a:={a with steps:=a.steps+1,t:=(eV c m su a.t).2.2}) X.rel f h7).mono ?_;rintro _ w6 ⟨rfl,T6,Q,A6⟩;have b5:Gx (SM h Y o alT) L Y w6 T6:=SM.oZ f Q;exact fin w6 T6 _ l (SM.then a5 b5 (λ_ h=>h)) (H5.bP Q f j) (lS U5 f Q) A6
  |false=>
   rw[d2]at k5;rw[bV (by rw[d2];decide)]at l;simp only[ae,ac,zS,jQ,az,F5.t,k5];exact fin L Y _ l a5 H5 U5 ⟨_,_,f,(λ_ _=>⟨tb,rfl,h7⟩),λh=>absurd (q0.symm.trans h) dC⟩
 . -- a word is k8 zero
  have l:ek c m su a=(m.set (aWd c a.held.toNat a.zero.toNat) 0,su,if a.zero+1=c.2.2.1 then{a with steps:=a.steps+1,zero:=a.zero+1,at':=4}else{a with steps:=a.steps+1,zero:=a.zero+1}):=by rw[l];simp[q0]
  have C:an (hp B ab) (0+4)=some (bN 3):=by have t:an (hp B ab) (0+4)=some (bN (a.at':Nat)):=F4.at';rw[q0]at t;exact t
  have hD:=d5 dB;have hz:=OA.zero q0;have hh:=OA.h3 dB dB;have n3:=N.n3;have fh:an (hp B ab) (0+8)=some (bN ((a.held.toNat:Nat):Int)):=by rw[dy hh];exact F4.held
  have fz:an (hp B ab) (0+9)=some (bN ((a.zero.toNat:Nat):Int)):=by rw[dy hz.1];exact F4.zero
  have dw:D h.wb=False:=by rw[hD];exact dn H H.wT (by obtain⟨n,hn⟩:=H.mT;exact ay H.wT hn dC)
  have da:D ab=False:=by rw[hD];exact dn H hT (H.s8 hT j)
  have dD:∀k,DM T1 h k->D k:=by
   rw[hD];rintro k (hk|hk)
   ·exact .inl hk
   ·refine .inr ?_;rw[<- a9 k (λhh=>by rw[hh,d]at hk;cases hk)];exact hk
  have a8:=(ad.refl [] B).drew;obtain⟨k6,_⟩:=mR P E;simp only[ptr,ac,zS,hM,kV,fa_237_9,eZ,ag,bx,C,Int.reduceBEq,fh,fz,k6,pS,dw,da,not_false_eq_true,true_and,mQ (w:=B.drew) (P.aF a8) E];refine(c_Word N (k:=a.held.toNat) (i:=a.zero.toNat) dB dB).mono ?_;rintro _ L ⟨rfl,c5⟩;refine⟨bG c5,?_⟩;have e8:=a8.trans c5;refine(oM (a:=aWd c a.held.toNat a.zero.toNat) (P.aF e8) E (M.wd dB dB) 0).mono ?_;rintro _ w6 ⟨i8,T6,Q,H6⟩;refine⟨lF (i8.mono dD),?_⟩;have U6:=(U4.aF e8).sm (o':=o) (es:= []) E (SM.mem Q) j (.inr dC);have V:=Q.off ab _ d (E.s8 d j);have i9:=SM.then a3 ((Gx.bL (S:=SM h T1 o alT) P e8).trans (SM.mem Q)) (λ_ h=>h)
  have F6:=nY Q.rel V;have ew:IntKind.i64.wrap (a.zero+1)=a.zero+1:=ap dB dB;simp only[ac,F6.zero,aj,ew];refine aA (A':=qT b {a with steps:=a.steps+1,zero:=a.zero+1} (.pointer x) (.pointer y)) Q.rel V aE ⟨rfl,rfl⟩ rfl (by show 9<21;omega) λw7 T7 Z I _ _=>?_;have H7:=H6.bP Z V j;have U7:=lS U6 V Z;have F7:=nY Z.rel I;obtain⟨_,k2,_⟩:=mR Z.rel H7;have j1:Gx (SM h T6 o alT) w6 T6 w7 T7:=SM.oZ V Z;have a6:=SM.then i9 j1 (λ_ h=>h)
  have b6:=(ad.refl [] w7).drew;by_cases d3:a.zero+1=c.2.2.1
  ·rw[bU d3]at l;have hb:(a.zero+1==c.2.2.1)=true:=by rw[d3];exact beq_self_eq_true _
   simp only[ac,zS,eW,ag,F7.zero,k2,hb];refine aA (A':=qT b {a with steps:=a.steps+1,zero:=a.zero+1,at':=4} (.pointer x) (.pointer y)) (Z.rel.aF b6) I aE ⟨rfl,rfl⟩ rfl (by show 4<21;omega) λw8 T8 g8 a4 _ _=>?_;have e9:Gx (SM h T7 o alT) w7 T7 w8 T8:=(Gx.bL Z.rel b6).trans (SM.oZ I g8);exact fin w8 T8 _ l (SM.then a6 e9 (λ_ h=>h)) (H7.bP g8 I j) (lS (U7.aF b6) I g8) ⟨_,_,a4,(λh=>by cases h),λh=>by cases h⟩
  ·rw[bV d3]at l;have hb:(a.zero+1==c.2.2.1)=false:=cH d3;simp only[ac,zS,eW,ag,F7.zero,k2,hb];exact fin w7.drew T7 _ l (a6.trans (Gx.bL Z.rel b6)) H7 (U7.aF b6) ⟨_,_,I,(λh=>absurd (q0.symm.trans h) dC),λh=>absurd (q0.symm.trans h) dC⟩
 . -- b1 chunk is k9 to b1 b9
  have l:ek c m su a=(m.set (aLk c a.held.toNat) (ed (aP a.old)+1),su,{a with steps:=a.steps+1,at':=5}):=by rw[l];simp[q0]
  have C:an (hp B ab) (0+4)=some (bN 4):=by have t:an (hp B ab) (0+4)=some (bN (a.at':Nat)):=F4.at';rw[q0]at t;exact t
  have hD:=d5 dB;have hh:=OA.h3 dB dB;have fh:an (hp B ab) (0+8)=some (bN ((a.held.toNat:Nat):Int)):=by rw[dy hh];exact F4.held
  have d7:T q=none:=by
   have hn:q≠ab:=λhh=>by rw[hh,d]at a2;cases a2
   rw[<- a9 q hn];exact a2
  have dw:D h.wb=False:=by rw[hD];exact dn H H.wT (by obtain⟨n,hn⟩:=H.mT;exact ay H.wT hn dC)
  have da:D ab=False:=by rw[hD];exact dn H hT (H.s8 hT j)
  have dq:D q=False:=by rw[hD];exact dl H d7
  have dD:∀k,DM T1 h k->D k:=by
   rw[hD];rintro k (hk|hk)
   ·exact .inl hk
   ·refine .inr ?_;rw[<- a9 k (λhh=>by rw[hh,d]at hk;cases hk)];exact hk
  have a8:=(ad.refl [] B).drew;obtain⟨k6,_⟩:=mR P E;have l8: -1<=ed (aP a.old)/\ed (aP a.old)<=65535:=by unfold ed;split<;>omega
  simp only[ptr,ac,zS,hM,kV,eZ,ag,bx,C,Int.reduceBEq,fh,k6,pS,dw,da,dq,not_false_eq_true,true_and,mQ (w:=B.drew) (P.aF a8) E,sf (w:=B.drew) a1];refine(c_Link N (i:=a.held.toNat) dB).mono ?_;rintro _ L ⟨rfl,c5⟩;refine⟨bG c5,?_⟩;refine(c_Chunk (aP a.old) rb.2.1.2).mono ?_;rintro _ w6 ⟨rfl,c6⟩;refine⟨bG c6,?_⟩;have f2:=(a8.trans c5).trans c6;have ew:IntKind.i64.wrap (ed (aP a.old)+1)=ed (aP a.old)+1:=ap dB dB;have j2:IntKind.u64.wrap (ed (aP a.old)+1)=ed (aP a.old)+1:=nr dB dB;simp only[ac,aj,ew,j2,kX];refine(oM (a:=aLk c a.held.toNat) (P.aF f2) E (M.lk dB) _).mono ?_;rintro _ w7 ⟨j3,T7,Z,H7⟩;refine⟨lF (j3.mono dD),?_⟩;have U7:=(U4.aF f2).sm (o':=o) (es:= []) E (SM.mem Z) j (.inr dC);have I:=Z.off ab _ d (E.s8 d j);have a6:=SM.then a3 ((Gx.bL (S:=SM h T1 o alT) P f2).trans (SM.mem Z)) (λ_ h=>h)
  try simp only[]
  refine aA (A':=qT b {a with steps:=a.steps+1,at':=5} (.pointer x) (.pointer y)) Z.rel I aE ⟨rfl,rfl⟩ rfl (by show 4<21;omega) λw8 T8 g8 a4 _ _=>?_;have e9:Gx (SM h T7 o alT) w7 T7 w8 T8:=SM.oZ I g8;exact fin w8 T8 _ l (SM.then a6 e9 (λ_ h=>h)) (H7.bP g8 I j) (lS U7 I g8) ⟨_,_,a4,(λh=>by cases h),λh=>by cases h⟩
 . -- b1 root l1 b1 chunk
  have l:ek c m su a=(if cf m (iI c a.slot.toNat)=a.old then(m.set (iI c a.slot.toNat) (lB {aP a.old with mark:=a.held+2,off:=eC c.2.2.1 a.need}),oW c.2.2.2.2.1 su {a with steps:=a.steps+1,at':=0,held:= -1} a.held 0)
   else(m,su,{a with steps:=a.steps+1,at':=0})):=by rw[l];simp[q0]
  have C:an (hp B ab) (0+4)=some (bN 5):=by have t:an (hp B ab) (0+4)=some (bN (a.at':Nat)):=F4.at';rw[q0]at t;exact t
  have hD:=d5 dB;have hh:=OA.h3 dB dB;have dw:D h.wb=False:=by rw[hD];exact dn H H.wT (by obtain⟨n,hn⟩:=H.mT;exact ay H.wT hn dC)
  have da:D ab=False:=by rw[hD];exact dn H hT (H.s8 hT j)
  have a8:=(ad.refl [] B).drew;simp only[ac,zS,hM,ag,C,Int.reduceBEq,sf a1];refine rt_box λq2 L d1 c5 d8=>?_;have F5:=nY (P.aF c5) d;obtain⟨_,k2,_⟩:=mR (P.aF c5) E;have ew:IntKind.i64.wrap (a.held+2)=a.held+2:=ap dB dB;have j4:=(ad.refl [] L).drew;simp only[ac,zS,rC,kV,eW,mC,ag,F5.need,F5.held,k2,aj,ew,pS,dw,da,not_false_eq_true,true_and];refine(c_rAfter _ _ _).mono ?_;rintro _ _ ⟨rfl,rfl⟩;refine⟨bG (ad.refl _ _),?_⟩;refine rt_w1 (w0:=B) (w:=L.drew) d8 d1 (c5.trans j4) λw6 c6 e1=>?_;try simp only[ac,pq]
  refine rt_w3 (w0:=B) (w:=w6) e1 d1 c6 λw7 c7 j5=>?_;simp only[ac,sf j5];refine(sS _).mono ?_;rintro _ w8 ⟨bb,rfl,c8⟩;have f3:=c7.trans c8;have R8:=P.aF f3;have U8:=U4.aF f3;try simp only[kG,kH,ac]
  refine aA (A':=qT b {a with steps:=a.steps+1,at':=0} (.pointer x) (.pointer y)) R8 d aE ⟨rfl,rfl⟩ rfl (by show 4<21;omega) λw9 T9 g9 a7 l9 c9=>?_;have H9:=E.bP g9 d j;have U9:=lS U8 d g9;have F9:=nY g9.rel a7;obtain⟨k6,_⟩:=mR g9.rel H9;have j6:Gx (SM h T1 o alT) B T1 w9 T9:=(Gx.bL P f3).trans (SM.oZ d g9);simp only[ptr,ac,zS,eZ,bx,k6,F9.old];have f4:=(ad.refl [] w9).drew;refine(c_Cas (a:=iI c a.slot.toNat) (g9.rel.aF f4) H9 (M.rt dB) a.old _).mono ?_;rintro _ e5 ⟨rfl,l2,f5,b7,H10⟩;have h8:=(U9.aF f4).sm (o':=o) (es:= []) H9 (SM.mem b7) j (.inr dC);have J:=b7.off ab _ a7 (H9.s8 a7 j);have g0:=SM.then (SM.then a3 j6 (λ_ h=>h)) ((Gx.bL (S:=SM h T9 o alT) g9.rel f4).trans (SM.mem b7)) (λ_ h=>h)
  by_cases hc:cf m (iI c a.slot.toNat)=a.old
  ·rw[bU hc]at l H10;have F10:=nY b7.rel J;simp only[ac,zS,hc,F10.held];refine aA (A':=qT b {a with steps:=a.steps+1,at':=0,held:= -1} (.pointer x) (.pointer y)) b7.rel J aE ⟨rfl,rfl⟩ rfl (by show 8<21;omega) λe6 e7 W h9 _ _=>?_;refine(c_fine (a:={a with steps:=a.steps+1,at':=0,held:= -1}) N W.rel (H10.bP W J j) j (lS h8 J W) O dB (by show -1<=(-1:Int);omega) h9 a.held 0).mono ?_;rintro _ j7 ⟨rfl,j8,i1,j9,k1⟩;have f6:Gx (SM h f5 o alT) e5 f5 e6 e7:=SM.oZ J W;exact fin j7 j8 _ l (SM.then (SM.then g0 f6 (λ_ h=>h)) (SO.toM (h:=h) (es':=alT) i1 dC) (λ_ h=>h)) ((H10.bP W J j).so i1 j) j9 k1
  ·rw[bV hc]at l H10;simp only[zS,hc];exact fin e5 f5 _ l g0 H10 h8 ⟨x,y,J,(λh=>by cases h),λh=>by cases h⟩
 . -- l3 is l4 is k3
  have l:ek c m su a=((cO c m a.g).1,su,{a with steps:=a.steps+1,g:=(cO c m a.g).2,done:=(cO c m a.g).2.done}):=by rw[l];simp[q0]
  have C:an (hp B ab) (0+4)=some (bN 6):=by have t:an (hp B ab) (0+4)=some (bN (a.at':Nat)):=F4.at';rw[q0]at t;exact t
  obtain⟨gb,rfl,G⟩:=hy q0 hd;have G1:=(G.al hT g1).aF b8;simp only[ac,zS,hM,fa_237_12,ag,ld_235,C,Int.reduceBEq,F4.g];refine(c_GiStep P E j (M.pool N) G1 (OA.g q0)).mono ?_;rintro _ L ⟨Y,X,H5,G5⟩;have f:=X.off ab _ d (SM.un E d j (.inr dC));have a5:=SM.then a3 (X.mono λk hk=>hk.imp id fun⟨e,cs,p,q⟩=>⟨e,cs,p,(show∀e∈ [282,293],e∈alT by decide) e q⟩) (λ_ h=>h)
  have U5:=U4.sm E X j (.inr dC);have F5:=nY X.rel f;have d4:an (hp L gb) (0+2)=some (.bool (cO c m a.g).2.done):=by obtain⟨q,v,hg,_⟩:=G5;rw[nd_l X.rel hg];rfl
  simp only[ae,ac,mG,az,F5.g,d4];refine aA (A':=qT b {a with steps:=a.steps+1,g:=(cO c m a.g).2,done:=(cO c m a.g).2.done} (.pointer x) (bS gb)) X.rel f m8 ⟨rfl,rfl⟩ rfl (by show 20<21;omega) λw6 T6 Q V _ _=>?_;have b5:Gx (SM h Y o alT) L Y w6 T6:=SM.oZ f Q;exact fin w6 T6 _ l (SM.then a5 b5 (λ_ h=>h)) (H5.bP Q f j) (lS U5 f Q) ⟨x,some ⟨gb,0,none⟩,V,(λh=>absurd (q0.symm.trans h) dC),λ_ _=>⟨gb,rfl,G5.al f Q⟩⟩
end
section
variable{w w0 w1 w2 w':World}{T T1 T2 T':dH}{h:Hm}{c:cx}{m m':bd}{o o' b sb lb k ab tb q eb:Nat}{es es':List TypeId}{su:lC}
def edA(wb:Nat)(e:EdV):Array Value:= #[ptr wb,bN e.slot,bN e.gen,bN e.at',bN e.steps,bN e.point,bN e.chunk,bR e.old,bN e.code,.bool e.done]
def edN(o wb:Nat)(e:EdV):Nod:= .st o 287 ((edA wb e).toList.map fF.v)
def EdR(T:dH)(o eb:Nat)(h:Hm)(e:EdV):Prop:=T eb=some (edN o h.wb e)
structure EdF(w:World)(eb wb:Nat)(e:EdV):Prop where
 wb:an (hp w eb) (0+0)=some (ptr wb)
 slot:an (hp w eb) (0+1)=some (bN e.slot)
 gen:an (hp w eb) (0+2)=some (bN e.gen)
 at':an (hp w eb) (0+3)=some (bN e.at')
 steps:an (hp w eb) (0+4)=some (bN e.steps)
 point:an (hp w eb) (0+5)=some (bN e.point)
 chunk:an (hp w eb) (0+6)=some (bN e.chunk)
 old:an (hp w eb) (0+7)=some (bR e.old)
 code:an (hp w eb) (0+8)=some (bN e.code)
 done:an (hp w eb) (0+9)=some (.bool e.done)
theorem ed_f{wb:Nat}{e:EdV}(R:Rel w T)(hT:T eb=some (edN o wb e)):EdF w eb wb e:=by
 have hb:hp w eb=some (.cells (edA wb e) 287):=R.kK hT;constructor<;>rw[hb]<;>rfl
structure EdOk(c:cx)(e:EdV):Prop where
 at':e.at'<=1
 slot:0<=e.slot/\e.slot<cS c
 steps:0<=e.steps/\e.steps<=1000000000
 old:e.at'=1->sR e.old
theorem c_End(R:Rel w T)(slot gen:Int)(o:Nat):aa prog 175 [ptr h.wb,bN slot,bN gen] w λv w'=>∃eb T',v=ptr eb/\Gx (λ_=>False) w T w' T'/\EdR T' o eb h (edNew slot gen):=by
 apply F175_ok;have a:ai prog (Instr.build 287 #[(0,ptr h.wb),(1,bN slot),(2,bN gen),(6,bN (-1))])=some (.agg (edA h.wb (edNew slot gen))):=bd_287_0_1_2_6;simp only[F175,a,ak,aq,ac];have g:=Gx.pR (S:=λ_=>False) R o 287 (edA h.wb (edNew slot gen)).toList;exact⟨w.heap.size,_,rfl,g,ax⟩
theorem c_EdStep{e:EdV}(N:gG c)(R:Rel w T)(H:dG T h c m)(n:o≠0)(M:ee c m)(E:EdR T o eb h e)(OE:EdOk c e):
  aa prog 194 [ptr eb] w λv w'=>v= .bool (!e.done)/\∃T',Gx (SM h T o [287]) w T w' T'/\dG T' h c (fu c m e).1/\EdR T' o eb h (fu c m e).2:=by
 apply F194_ok (D:=DM T h);have hT:T eb=some (edN o h.wb e):=E;have F:=ed_f R hT;cases S:e.done with
 |true=>
  have Fd:=F.done;rw[S]at Fd;simp only[F194,ptr,ae,ac,pz,az,Fd,zS];rw[fu,bU S];exact⟨by first|rfl|trivial,T,Gx.refl R,H,E⟩
 |false=>
 have Fd:=F.done;rw[S]at Fd;have os:=OE.steps;have b7:=OE.slot;have b4:=N.b4;have one:∀{w w':World} {T T':dH} {cs:List fF},T eb=some (.st o 287 cs)->Gx (λq=>q=eb) w T w' T'->Gx (SM h T o [287]) w T w' T':=λhT g=>SO.toM (SO.one (es:= [287]) hT dC g) dC;rw[F194];have ew:IntKind.i64.wrap (e.steps+1)=e.steps+1:=ap dB dB;simp only[ptr,ae,ac,pz,fa_287_4,az,ag,Fd,F.steps,aj,ew,zS];refine aA (A':=edA h.wb {e with steps:=e.steps+1}) R hT aE ⟨rfl,rfl⟩ rfl (by show 4<10;omega) λw1 T1 P b U c1=>?_;have y:=H.bP P hT n;have F1:=ed_f P.rel b;have es:e.slot=((e.slot.toNat:Nat):Int):=dB;have fs:an (hp w1 eb) (0+1)=some (bN ((e.slot.toNat:Nat):Int)):=by rw[<- es];exact F1.slot
 simp only[ptr,ae,ac,zS,fa_287_0,fa_287_1,bJ,fW,ag,mQ (w:=w1.drew) (P.rel.aF (ad.refl [] w1).drew) y,F1.wb,fs];refine(lE N (i:=e.slot.toNat) dB).mono ?_;rintro _ w2 ⟨rfl,c2⟩;have V:=(ad.refl [] w1).drew.trans c2;have z:=P.rel.aF V;have F2:=ed_f z b;have W:Gx (SM h T o [287]) w T w2 T1:=(one hT P).trans (Gx.bL P.rel V);have dD:∀k,DM T1 h k->DM T h k:=by
  rintro k (hk|hk)
  ·exact .inl hk
  ·refine .inr ?_;rw[<- U k (λhh=>by rw[hh,b]at hk;cases hk)];exact hk
 have da:DM T h eb=False:=dn H hT (H.s8 hT n);obtain⟨k6,_⟩:=mR z y;have A2:e.at'=0\/e.at'=1:=by have:=OE.at';omega
 rcases A2 with q0|q0
 ·have p:fu c m e=(if ma (aP (cf m (iI c e.slot.toNat))) e.gen then(m,{e with steps:=e.steps+1,old:=cf m (iI c e.slot.toNat),at':=1})
   else(m,{e with steps:=e.steps+1,old:=cf m (iI c e.slot.toNat),code:=3,point:=e.steps+1,done:=true,at':=1})):=by rw[fu,bV (by rw[S];decide),bU q0]
  have A:an (hp w2 eb) (0+3)=some (bN 0):=by have t:an (hp w2 eb) (0+3)=some (bN (e.at':Nat)):=F2.at';rw[q0]at t;exact t
  simp only[ptr,ae,ac,zS,py,eZ,ag,bx,A,F2.wb,k6];refine(iR (a:=iI c e.slot.toNat) z y (M.rt dB)).mono ?_;rintro _ w3 ⟨rfl,_,T3,g3,H3⟩;have B:=g3.off eb _ b (y.s8 b n);have a7:=SM.then W (SM.mem g3) (λ_ h=>h)
  generalize X:cf m (iI c e.slot.toNat)=old at*;have hu:sR old:=by rw[<- X];exact iw M.u _
  try simp only[ac,fa_287_7]
  refine aA (A':=edA h.wb {e with steps:=e.steps+1,old:=old}) g3.rel B sz_33 ⟨rfl,rfl⟩ rfl (by show 7<10;omega) λw4 T4 Q d _ _=>?_;have F4:=ed_f Q.rel d;have Y:=SM.then a7 (one B Q) (λ_ h=>h)
  have H4:=H3.bP Q B n;simp only[ac,zS,fa_287_2,ag,br,F4.old,F4.gen,pS,da,not_false_eq_true,true_and];refine(iO hu).mono ?_;rintro _ w5 ⟨rfl,Z⟩;refine⟨bG Z,?_⟩;refine(c_Live _ _).mono ?_;rintro _ w6 ⟨rfl,c6⟩;refine⟨bG c6,?_⟩;have C:=((ad.refl [] w4).drew.trans Z).trans c6;have R6:=Q.rel.aF C;have F6:=ed_f R6 d;cases hl:ma (aP old) e.gen with
  |true=>
   rw[bU hl]at p;simp only[ac,zS];apply L194_0_ok;simp only[L194_0,ae,ac,py];refine aA (A':=edA h.wb {e with steps:=e.steps+1,old:=old,at':=1}) R6 d aE ⟨rfl,rfl⟩ rfl (by show 3<10;omega) λw7 T7 g7 G _ _=>?_;rw[p];exact⟨by first|rfl|trivial,T7,SM.then (Y.trans (Gx.bL Q.rel C)) (one d g7) (λ_ h=>h),H4.bP g7 d n,G⟩
  |false=>
   rw[bV (by rw[hl];decide)]at p;simp only[ac,zS,fa_287_8,F6.steps];refine aA (A':=edA h.wb {e with steps:=e.steps+1,old:=old,code:=3}) R6 d sz_30 ⟨rfl,rfl⟩ rfl (by show 8<10;omega) λw7 T7 g7 G _ _=>?_;try simp only[ac,fa_287_5]
   refine aA (A':=edA h.wb {e with steps:=e.steps+1,old:=old,code:=3,point:=e.steps+1}) g7.rel G aE ⟨rfl,rfl⟩ rfl (by show 5<10;omega) λw8 T8 g8 I _ _=>?_;try simp only[ae,ac,pz]
   refine aA (A':=edA h.wb {e with steps:=e.steps+1,old:=old,code:=3,point:=e.steps+1,done:=true}) g8.rel I m8 ⟨rfl,rfl⟩ rfl (by show 9<10;omega) λw9 T9 g9 J _ _=>?_;apply L194_0_ok;simp only[L194_0,ae,ac,py];refine aA (A':=edA h.wb {e with steps:=e.steps+1,old:=old,code:=3,point:=e.steps+1,done:=true,at':=1}) g9.rel J aE ⟨rfl,rfl⟩ rfl (by show 3<10;omega) λa8 a1 r j _ _=>?_;rw[p];have gg:=((g7.trans g8).trans g9).trans r;exact⟨by first|rfl|trivial,a1,SM.then (Y.trans (Gx.bL Q.rel C)) (one d gg) (λ_ h=>h),H4.bP gg d n,j⟩
 ·have p:fu c m e=(if cf m (iI c e.slot.toNat)=e.old then
   (m.set (iI c e.slot.toNat) (lB ⟨(aP e.old).gen,0,0,0⟩),{e with steps:=e.steps+1,chunk:=ed (aP e.old),point:=e.steps+1,done:=true,at':=0})
   else(m,{e with steps:=e.steps+1,at':=0})):=by rw[fu,bV (by rw[S];decide),bV (by rw[q0];decide)]
  have A:an (hp w2 eb) (0+3)=some (bN 1):=by have t:an (hp w2 eb) (0+3)=some (bN (e.at':Nat)):=F2.at';rw[q0]at t;exact t
  have hu:=OE.old q0;have rb:=rt_bd hu;simp only[ac,zS,py,fa_287_7,ag,br,A,F2.old,Int.reduceBEq];refine(iO hu).mono ?_;rintro _ w3 ⟨rfl,c3⟩;refine rt_box λq w4 hq c4 a2=>?_;have a3:=c3.trans c4;have s:T1 q=none:=(z.aF c3).fresh hq;have a9:T q=none:=by
   have hn:q≠eb:=λhh=>by rw[hh,b]at s;cases s
   rw[<- U q hn];exact s
  have dq:DM T h q=False:=dl H a9;have R4:=z.aF a3;obtain⟨r0,_⟩:=rt_l a2;have b1:ai prog (Instr.build 231 #[(0,bN (aP e.old).gen)])=some (.agg (lN ⟨(aP e.old).gen,0,0,0⟩)):=bd_231_0;simp only[ac,fa_231_0,ag,r0,b1];refine(sS _).mono ?_;rintro _ w5 ⟨bb,rfl,Z⟩;have a4:=a3.trans Z;have R5:=z.aF a4;have F5:=ed_f R5 b;obtain⟨k6,_⟩:=mR R5 y;have b2:=Z.at a2 (by simp);simp only[kG,kH,ptr,ae,ac,zS,eZ,bx,F5.wb,F5.old,k6];have K:=(ad.refl [] w5).drew;refine(c_Cas (a:=iI c e.slot.toNat) (R5.aF K) y (M.rt dB) e.old _).mono ?_;rintro _ w6 ⟨rfl,_,T6,L,H6⟩;have f:=L.off eb _ b (y.s8 b n);have b3:Gx (SM h T1 o [287]) w2 T1 w6 T6:=(Gx.bL z (a4.trans K)).trans (SM.mem L);have a5:=SM.then W b3 (λ_ h=>h)
  by_cases hc:cf m (iI c e.slot.toNat)=e.old
  ·rw[bU hc]at p H6;have F6:=ed_f L.rel f;have b5:=(L.loc (K.at b2 (by simp)) s).1;simp only[ac,zS,hc,F6.steps,pS,da,dq,not_false_eq_true,true_and,sf (w:=w6.drew) b5];refine(c_Chunk (aP e.old) rb.2.1.2).mono ?_;rintro _ w7 ⟨rfl,c7⟩;refine⟨bG c7,?_⟩;have a6:=(ad.refl [] w6).drew.trans c7;try simp only[ac,fa_287_6]
   refine aA (A':=edA h.wb {e with steps:=e.steps+1,chunk:=ed (aP e.old)}) (L.rel.aF a6) f aE ⟨rfl,rfl⟩ rfl (by show 6<10;omega) λw8 T8 g8 I _ _=>?_;try simp only[ac,fa_287_5]
   refine aA (A':=edA h.wb {e with steps:=e.steps+1,chunk:=ed (aP e.old),point:=e.steps+1}) g8.rel I aE ⟨rfl,rfl⟩ rfl (by show 5<10;omega) λw9 T9 g9 J _ _=>?_;try simp only[ae,ac,pz]
   refine aA (A':=edA h.wb {e with steps:=e.steps+1,chunk:=ed (aP e.old),point:=e.steps+1,done:=true}) g9.rel J m8 ⟨rfl,rfl⟩ rfl (by show 9<10;omega) λa8 a1 r j _ _=>?_;apply L194_1_ok;simp only[L194_1,ae,ac,py];refine aA (A':=edA h.wb {e with steps:=e.steps+1,chunk:=ed (aP e.old),point:=e.steps+1,done:=true,at':=0}) r.rel j aE ⟨rfl,rfl⟩ rfl (by show 3<10;omega) λb6 O x l _ _=>?_;rw[p];have gg:=((g8.trans g9).trans r).trans x;exact⟨by first|rfl|trivial,O,SM.then (a5.trans (Gx.bL L.rel a6)) (one f gg) (λ_ h=>h),H6.bP gg f n,l⟩
  ·rw[bV hc]at p H6;simp only[zS,hc];apply L194_1_ok;simp only[L194_1,ae,ac,py];refine aA (A':=edA h.wb {e with steps:=e.steps+1,at':=0}) L.rel f aE ⟨rfl,rfl⟩ rfl (by show 3<10;omega) λb6 O x l _ _=>?_;rw[p];exact⟨by first|rfl|trivial,O,SM.then a5 (one f x) (λ_ h=>h),H6.bP x f n,l⟩
end
section
variable{w w0 w1 w2 w':World}{T T1 T2 T':dH}{b o:Nat}{e:TypeId}{cs cs':List fF}{vs vs':List Value}
theorem Gx.newg{S:Nat->Prop}(R:Rel w T)(r:ad [] w w1){base k:Nat}{v:Value}{e':TypeId}{z n:Nat}{us:List Value}(hb:w.heap.size<=base)(s:w1.ownsRow base e' z v n us)(o:Nat)(e:TypeId)(I:vs.length=cs.length)(J:cs[k]? =some (.gr e' z n us))(hv:vs[k]? =some v)
  (K:∀(j:Nat) (c:fF) (u:Value),j≠k->cs[j]? =some c->vs[j]? =some u->c= .v u):∃T',T' w1.heap.size=some (.st o e cs)/\Gx S w T (w1.alloc (.cells vs.toArray e)) T':=by
 let T1:dH:=λq=>if q=w1.heap.size then some (.st o e cs)else if v.ownBlock=some q then some (.own w1.heap.size k)else T q
 have m:∀q,v.ownBlock=some q->q<w1.heap.size:=λq b=>(s.lt q b).2;have t:∀q,v.ownBlock=some q->w.heap.size<=q:=λq b=>cU hb (oS s b);have F:T1 w1.heap.size=some (.st o e cs):=bU rfl;have G:∀q,v.ownBlock=some q->T1 q=some (.own w1.heap.size k):=λq b=>by
  have:=m q b;show(if q=w1.heap.size then _ else _)=_;rw[bV dB,bU b]
 have hT:∀q,q<w.heap.size->T1 q=T q:=λq b=>by
  have P:=r.size;show(if q=w1.heap.size then _ else _)=_;rw[bV dB,bV (λh=>by have:=t q h;omega)]
 have old:∀q l,T q=some l->T1 q=some l:=λq l h=>by rw[hT q (R.lt q l h)];exact h
 have y:ad [] w (w1.alloc (.cells vs.toArray e)):=r.alloc _;have L:ad [] w1 (w1.alloc (.cells vs.toArray e)):=(ad.refl _ _).alloc _;have M:∀{x j c u},fJ w T x j c u->fJ (w1.alloc (.cells vs.toArray e)) T1 x j c u:=fun{x j c u} h=>by
  have d:=h.frame (bl.bL y _);cases c with
  |v u=>exact d
  |gr e' z n us=>exact⟨d.1,λp hp=>old p _ (d.2 p hp)⟩
 refine⟨T1,F,⟨λx o' O A i=>?_,λx l i=>?_⟩,bl.bL y _,λq l f _=>old q l f,λq x j h=>old q _ h,λq b h=>by rw[hT q b];exact h,λq Q U B f=>⟨B,old q _ f⟩⟩
 ·by_cases g:x=w1.heap.size
  ·subst g;rw[F]at i;cases i;refine⟨vs,by rw[af,bU rfl],I,λj c u f d=>?_⟩;by_cases H:j=k
   ·subst H;rw[J]at f;rw[hv]at d;cases f;cases d;exact⟨ownsRow_mono (bM s L (λ_ _=>by simp)) (cQ _),G⟩
   ·rw[K j c u H f d];exact rfl
  ·by_cases a:v.ownBlock=some x
   ·rw[G x a]at i;cases i
   ·have C:T x=some (.st o' O A):=by
     have:T1 x=T x:=by
      show(if x=w1.heap.size then _ else _)=_;rw[bV g,bV a]
     rw[<- this];exact i
    obtain⟨D,E⟩:=R.node x _ _ _ C;exact⟨D,y.at E.hb (by simp),E.len,λj c u f d=>M (E.each j c u f d)⟩
 ·rw[ah];by_cases g:x=w1.heap.size
  ·omega
  ·by_cases a:v.ownBlock=some x
   ·have:=m x a;omega
   ·have:T1 x=T x:=by
     show(if x=w1.heap.size then _ else _)=_;rw[bV g,bV a]
    rw[this]at i;have:=R.lt x _ i;have:=r.size;omega
open Classical in
theorem Gx.plain{X S:Nat->Prop}{C:dH}(R:Rel w T)(M:Rel w C)(D:∀k,X k->T k≠none/\∃(o:Nat) (e:TypeId) (vs:List Value),C k=some (.st o e (vs.map fF.v)))(f:∀k,¬X k->C k=T k)(y:∀(x o:Nat) (e:TypeId) (cs:List fF) (vs:List Value) (j:Nat) (v:Value) (e':TypeId) (z n:Nat) (us:List Value) (p:Nat),X x->T x=some (.st o e cs)->hp w x=some (.cells vs.toArray e)->cs[j]? =some (.gr e' z n us)->vs[j]? =some v->v.ownBlock=some p->X p)(g:Gx S w C w' T1)(K:∀k,X k->¬S k):
  ∃T',Gx S w T w' T'/\(∀ k,¬X k->T' k=T1 k)/\∀k,X k->T' k=T k/\hp w' k=hp w k:=by
 let T':dH:=λk=>if X k then T k else T1 k
 have r:∀k,X k->T' k=T k:=λk h=>bU h;have q:∀k,¬X k->T' k=T1 k:=λk h=>bV h;have same:∀k,X k->hp w' k=hp w k:=λk d=>by
  obtain⟨_,E,F,G,a⟩:=D k d;rw[M.kK a,g.rel.kK (g.off k _ a (K k d))]
 have H:∀k,X k->∃o e cs,T1 k=some (.st o e cs):=λk d=>by
  obtain⟨_,E,F,G,a⟩:=D k d;exact⟨_,_,_,g.off k _ a (K k d)⟩
 have O:bl (λk=>¬X k) w w':=⟨g.aF.os,g.aF.tape,g.aF.output,g.aF.size,λk d t=>same k (Classical.not_not.1 t)⟩
 refine⟨T',⟨⟨λx o' Q A i=>?_,λx L i=>?_⟩,g.aF.mono λk d=>?_,λk L a l=>?_,λk b j h=>?_,λk d t=>?_,λk E F B a=>?_⟩,q,λk d=>⟨r k d,same k d⟩⟩
 ·by_cases h:X x
  ·rw[r x h]at i;obtain⟨us,m⟩:=R.node x _ _ _ i;refine⟨us,by rw[same x h];exact m.hb,m.len,λj c u a l=>?_⟩;have s:=m.each j c u a l;cases c with
   |v u=>exact s
   |gr e' z n P=>exact⟨O.row s.1 λp hp t=>t (y x _ _ _ us j u _ _ _ _ p h i m.hb a l hp),λp hp=>by rw[r p (y x _ _ _ us j u _ _ _ _ p h i m.hb a l hp)];exact s.2 p hp⟩
  ·rw[q x h]at i;obtain⟨us,m⟩:=g.rel.node x _ _ _ i;refine⟨us,m.hb,m.len,λj c u a l=>?_⟩;have s:=m.each j c u a l;cases c with
   |v u=>exact s
   |gr e' z n us=>
    refine⟨s.1,λp hp=>?_⟩;have I:=s.2 p hp;rw[q p λhh=>by obtain⟨_,_,_,h6⟩:=H p hh;rw[h6]at I;cases I];exact I
 ·by_cases h:X x
  ·rw[r x h]at i;have:=R.lt x _ i;have:=g.aF.size;omega
  ·rw[q x h]at i;exact g.rel.lt x _ i
 ·by_cases h:X k
  ·exact(D k h).1
  ·rw[<- f k h];exact d
 ·by_cases h:X k
  ·rw[r k h];exact a
  ·rw[q k h];exact g.off k L (by rw[f k h];exact a) l
 ·by_cases J:X k
  ·rw[r k J];exact h
  ·rw[q k J];exact g.own k b j (by rw[f k J];exact h)
 ·have h:¬X k:=λh=>(D k h).1 t;rw[q k h];exact g.non k d (by rw[f k h];exact t)
 ·by_cases h:X k
  ·exact⟨B,by rw[r k h];exact a⟩
  ·obtain⟨A,l⟩:=g.ty k E F B (by rw[f k h];exact a);exact⟨A,by rw[q k h];exact l⟩
end
section
variable{w w0 w1 w2 w':World}{T T1 T2 T':dH}{h:Hm}{c:cx}{m m':bd}{o o' b sb lb k ab tb q kb:Nat}{es es':List TypeId}{su:lC}
theorem Lo.agree{A:Option Addr}{us:List Value}(h:Lo w T A us)(b:∀k,T k=none->T' k=none):Lo w T' A us:=⟨h.rd,λp hp a=>b _ (h.off p hp a)⟩
theorem kL.agree{v:Value}{l:List Int}(h:kL w T v l)(a:∀k,T k=none->T' k=none):kL w T' v l:=by
 obtain⟨A,k,e,b,L⟩:=h;exact⟨A,k,e,b,Lo.agree L a⟩
theorem fN.agree(U:fN w T o b sb lb h c su)(d:∀k,T k=none->T' k=none)(a:∀k o e cs,T k=some (.st o e cs)->e=215\/e=258\/e=262->T' k=some (.st o e cs)):fN w T' o b sb lb h c su:=by
 refine⟨a _ _ _ _ U.n (.inl rfl),?_,?_⟩
 ·obtain⟨v,hT,L⟩:=U.s;exact⟨v,a _ _ _ _ hT (.inr (.inl rfl)),L.agree d⟩
 ·obtain⟨vs,hT,f,g,i⟩:=U.l;exact⟨vs,a _ _ _ _ hT (.inr (.inr rfl)),f,g,λk v hv=>(i k v hv).agree d⟩
def waA(wb:Nat)(lv:Value)(d:Bool):Array Value:= #[ptr wb,lv,.bool d]
def waL(wb:Nat)(k:WaV)(lv:Value):List Value:=(waA wb lv k.done).toList
def waC(wb:Nat)(k:WaV):List fF:= [.v (ptr wb),.gr 3 1 k.l.length (ints k.l),.v (.bool k.done)]
def waN(o wb:Nat)(k:WaV):Nod:= .st o 290 (waC wb k)
theorem waA_1{wb:Nat}{lv x:Value}{d:Bool}:(waA wb lv d).setIfInBounds (0+1) x=waA wb x d:=rfl
theorem waA_2{wb:Nat}{lv:Value}{d x:Bool}:(waA wb lv d).setIfInBounds (0+2) (.bool x)=waA wb lv x:=rfl
theorem wa_ok{wb:Nat}{lv:Value}{d:Bool}{t:TypeId}{j:Nat}(hb:hp w kb=some (.cells (waA wb lv d) t))(a:j<3):pY (hp w kb) (0+j+1)=true:=by
 rw[hb,bq];exact cr (by show 0+j+1<=3;omega)
structure WaF(w:World)(T:dH)(kb wb:Nat)(x:WaV)(A:Option Addr)(k:Nat):Prop where
 n:mP w T kb 290 (waC wb x) (waL wb x (.slice A x.l.length k))
 own:w.ownsRow 0 3 1 (.slice A x.l.length k) x.l.length (ints x.l)
 ot:∀q,(Value.slice A x.l.length k).ownBlock=some q->T q=some (.own kb 1)
 rd:fp w A (ints x.l)
 hb:hp w kb=some (.cells (waA wb (.slice A x.l.length k) x.done) 290)
 f0:an (hp w kb) (0+0)=some (ptr wb)
 f1:an (hp w kb) (0+1)=some (.slice A x.l.length k)
 f2:an (hp w kb) (0+2)=some (.bool x.done)
theorem wa_f{wb:Nat}{x:WaV}(R:Rel w T)(hT:T kb=some (waN o wb x)):∃A k,WaF w T kb wb x A k:=by
 obtain⟨vs,N⟩:=R.node _ _ _ _ hT;match vs,N.len,N with
 | [v0,v1,v2],_,N=>
  have b:v0=_:=N.each 0 _ _ rfl rfl;have c:v2=_:=N.each 2 _ _ rfl rfl;have a:=N.each 1 _ _ rfl rfl;subst b c;obtain⟨A,k,rfl,d,_⟩:=aT a.1;refine⟨A,k,N,a.1,a.2,d,N.hb,?_,?_,?_⟩<;>rw[N.hb]<;>rfl
theorem WaF.aF{A:Option Addr}{wb k:Nat}{x:WaV}(F:WaF w T kb wb x A k)(a:ad [] w w'):WaF w' T kb wb x A k:=
 ⟨⟨a.at F.n.hb (by simp),F.n.len,λj b v c d=>(F.n.each j b v c d).frame (bl.bL a _)⟩,bM F.own a (λk _=>by simp),F.ot,F.rd.ao a.below,a.at F.hb (by simp),lj a F.f0,lj a F.f1,lj a F.f2⟩
theorem WaF.put{A:Option Addr}{wb k:Nat}{x:WaV}(F:WaF w T kb wb x A k)(R:Rel w T)(hT:T kb=some (waN o wb x))(d:Bool):
  Gx (λq=>q=kb) w T (Ev.put w kb (waA wb (.slice A x.l.length k) d) 290) (ig T kb (waN o wb {x with done:=d})):=by
 refine Gx.put (vs':=waL wb {x with done:=d} (.slice A x.l.length k)) R hT rfl λj f v a b=>?_;have c:=(bY.1 a).1;have e:j=0\/j=1\/j=2:=by simp[waC]at c;omega
 rcases e with rfl|rfl|rfl<;>cases a<;>cases b
 ·rfl
 ·exact⟨F.own,F.ot⟩
 ·rfl
theorem WaF.grow{A:Option Addr}{wb k:Nat}{x:WaV}(F:WaF w T kb wb x A k)(R:Rel w T)(hT:T kb=some (waN o wb x))(x':WaV){lv:Value}(b:bl (λq=>(Value.slice A x.l.length k).ownBlock=some q) w w1)(c:hI w (.slice A x.l.length k) lv)(d:w1.ownsRow 0 3 1 lv x'.l.length (ints x'.l)):
  hp w1 kb=hp w kb/\∃T',T' kb=some (waN o wb x')/\Gx (λq=>q=kb) w T (Ev.put w1 kb (waA wb lv x'.done) 290) T':=by
 refine Gx.grow (vs':=waL wb x' lv) (cs':=waC wb x') R hT F.n (k:=1) rfl rfl b c d rfl rfl rfl λj m v e a f=>?_;have g:=(bY.1 a).1;have i:j=0\/j=2:=by simp[waC]at g;omega
 rcases i with rfl|rfl<;>cases a<;>cases f<;>rfl
def WaR(T:dH)(o kb:Nat)(h:Hm)(x:WaV):Prop:=T kb=some (waN o h.wb x)
theorem own_one{x:Int}{e:TypeId}:(w.alloc (.cells #[bN x] e)).ownsRow w.heap.size e 1 (.slice (some ⟨w.heap.size,0,none⟩) 1 1) 1 [bN x]:=by
 refine⟨rfl,.inr ⟨w.heap.size,1,#[bN x],rfl,cy _,?_,cy _,dC,rfl,rfl⟩⟩;show hp (w.alloc (.cells #[bN x] e)) w.heap.size=_;rw[af,bU rfl]
theorem rd_intp{A:Option Addr}{l:List Int}(L:fp w A (ints l)){i:Nat}{y:Int}(a:l[i]? =some y)(k:Nat):∃q f,ai prog (Instr.indexAt 22 (.slice A l.length k) (bN i))=some (.pointer (some ⟨q,f,none⟩))/\an (hp w q) f=some (bN y)/\∃p,A=some p/\q=p.block:=by
 have g:=(bY.1 a).1;obtain⟨q,f,b,d,e⟩:=L.elem1 (P:=prog) (c:=k) (n:=l.length) (i:=(i:Int)) (j:= .i64) Tryz.underlying22 aE (by simp[ints]) dB dB;exact⟨q,f,b,by rw[d,cj,ints,cN,a];rfl,e⟩
theorem c_Walk(R:Rel w T)(x:Int)(o:Nat):aa prog 196 [ptr h.wb,bN x] w λv w'=>∃kb T',v=ptr kb/\Gx (λ_=>False) w T w' T'/\WaR T' o kb h ⟨[x],false⟩:=by
 apply F196_ok;have d:∀a n k,ai prog (Instr.build 290 #[(0,ptr h.wb),(1,.slice a n k)])=some (.agg (waA h.wb (.slice a n k) false)):=λa n k=>bd_290_0_1;simp only[F196,d,bs_22_1,ak,aq,ac];have f:ad [] w (w.alloc (.cells #[bN x] 3)):=(ad.refl _ _).alloc _;obtain⟨T',b,g⟩:=Gx.newg (S:=λ_=>False) (vs:=waL h.wb ⟨[x],false⟩ (.slice (some ⟨w.heap.size,0,none⟩) 1 1)) (cs:=waC h.wb ⟨[x],false⟩) (k:=1) R f (cy _) (own_one (x:=x) (e:=3)) o 290 rfl rfl rfl λj c u i b l=>by
  have m:=(bY.1 b).1;have p:j=0\/j=2:=by simp[waC]at m;omega
  rcases p with rfl|rfl<;>cases b<;>cases l<;>rfl
 exact⟨_,T',rfl,g,b⟩
structure WaOk(c:cx)(x:WaV):Prop where
 n:x.done=false->1<=x.l.length
 m:x.l.length<=10000
 l:s7 (bB c) x.l
theorem c_WaStep{x:WaV}(N:gG c)(R:Rel w T)(H:dG T h c m)(V:o≠0)(M:ee c m)(K:WaR T o kb h x)(W:WaOk c x):
  aa prog 197 [ptr kb] w λv w'=>v= .bool (!x.done)/\∃T',Gx (SM h T o [290]) w T w' T'/\dG T' h c m/\WaR T' o kb h (ic c m x):=by
 apply F197_ok (D:=DM T h);have hT:T kb=some (waN o h.wb x):=K;obtain⟨A,k,F⟩:=wa_f R hT;cases E:x.done with
 |true=>
  have Fd:=F.f2;rw[E]at Fd;simp only[F197,ptr,ae,ac,fa_290_2,az,Fd,zS];rw[ic,bU E];exact⟨by first|rfl|trivial,T,Gx.refl R,H,K⟩
 |false=>
 have Fd:=F.f2;rw[E]at Fd;have on:=W.n E;have om:=W.m;have b2:=N.b2;obtain⟨y,hy,X,y0,y1⟩:=W.l.at (i:=x.l.length-1) dB;have a6:y<cC c:=y1;obtain⟨q,f,iq,lq,p,rfl,rfl⟩:=rd_intp F.rd hy k;have ey:y=((y.toNat:Nat):Int):=dB;have Y:an (hp w p.block) f=some (bN ((y.toNat:Nat):Int)):=by rw[<- ey];exact lq
 have G:kb≠h.mb:=H.s8 hT V;have da:DM T h kb=False:=dn H hT G;have dw:DM T h h.wb=False:=dn H H.wT (by obtain⟨n,Z⟩:=H.mT;exact ay H.wT Z dC);have dp:DM T h p.block=False:=by
  have hp:=F.ot p.block rfl;simp only[DM,eq_iff_iff,iff_false,not_or];refine⟨λQ=>?_,λQ=>?_⟩
  ·obtain⟨n,Z⟩:=H.mT;rw[Q,Z]at hp;cases hp
  ·rw[hp]at Q;cases Q
 have cd:=(ad.refl [] w).drew;obtain⟨k6,k2,k7,_⟩:=mR R H;have e2:((x.l.length:Int)-1)=((x.l.length-1:Nat):Int):=dB;simp(disch:=omega) only[F197,ptr,ae,ac,fa_290_0,rG,fa_290_2,bJ,eZ,ru,az,ag,fW,bx,lU,aK,Fd,F.f0,F.f1,k6,k7,zS,aQ,aH,e2,ap,iq,Y,pS,da,dw,dp,not_false_eq_true,true_and,mQ (w:=w.drew) (R.aF cd) H];refine(c_Link N (i:=y.toNat) dB).mono ?_;rintro _ w1 ⟨rfl,c1⟩;refine⟨bG c1,?_⟩;have I:=cd.trans c1;refine(iR (a:=aLk c y.toNat) (R.aF I) H (M.lk dB)).mono ?_;rintro _ w2 ⟨rfl,a1,T2,S,J⟩;refine⟨lF (a1.mono λk hk=> .inl hk),?_⟩;refine(c_Below S.rel J.pT (by show cC c<=1000000;omega) (iw M.u _)).step ?_;refine⟨bG (ad.refl _ _),?_⟩;have b:=S.off kb _ hT G;have L:Gx (SM h T o [290]) w T w2 T2:=(Gx.bL R I).trans (SM.mem S);have B:=S.rel;obtain⟨A2,a7,C⟩:=wa_f B b;obtain⟨_,_,_⟩:=mR B J;have O:an (hp w2 h.wb) (0+0+1)=some (bN c.2.1):=by rw[B.kK J.wT];rfl
 have e0:ic c m x=(if gC (bB c) (cf m (aLk c y.toNat))<0\/x.l.length=cC c then{x with done:=true}else{x with l:=x.l++ [gC (bB c) (cf m (aLk c y.toNat))]}):=by rw[ic,bV (by rw[E];decide),X]
 have one:∀{w w':World} {T T':dH} {cs:List fF},T kb=some (.st o 290 cs)->Gx (λq=>q=kb) w T w' T'->Gx (SM h T o [290]) w T w' T':=λhT g=>SO.toM (SO.one (es:= [290]) hT dC g) dC;generalize a8:gC (bB c) (cf m (aLk c y.toNat))=d at*;have j:=(ad.refl [] w2).drew;have t:(d<0\/x.l.length=cC c)->ck prog (Instr.storeAt 4 (.pointer (some ⟨kb,0+2,none⟩)) (.bool true)) w2.drew λw'=>P197_0 w' λv w'=>v= .bool true/\∃T',Gx (SM h T o [290]) w T w' T'/\dG T' h c m/\WaR T' o kb h (ic c m x):=λhq=>by
  have e:=C.aF j;rw[st_4 (o:=0+2) rfl rfl (wa_ok e.hb dB),e.hb,aB,au,waA_2];apply L197_0_ok;rw[e0,bU hq];have g3:=e.put (B.aF j) b true;exact⟨rfl,_,SM.then L ((Gx.bL B j).trans (one b g3)) (λ_ h=>h),J.bP g3 b V,ax⟩
 have n2:=N.n2;by_cases r:d<0
 ·simp only[ac,zS,r];exact t (.inl r)
 ·by_cases P:x.l.length=cC c
  ·have hb:((x.l.length:Int)==c.2.1)=true:=by rw[n2,P];exact beq_self_eq_true _
   simp only[ptr,ae,ac,zS,r,fa_290_0,rG,bJ,jo,aK,ag,fW,aQ,C.f0,C.f1,O,hb];exact t (.inr P)
  ·have hb:((x.l.length:Int)==c.2.1)=false:=cH dB;rw[bV dB]at e0;simp only[ptr,ae,ac,zS,r,fa_290_0,rG,bJ,jo,aK,ag,fW,aQ,C.f0,C.f1,O,hb];have e:=C.aF j;have a2:=B.aF j;refine ps_22 (by simp) e.own dB (cQ _) λU w5 o5 a3 a4=>?_;obtain⟨s,T5,a5,g5⟩:=e.grow a2 b {x with l:=x.l++ [d]} (lv:=U) (ji a3) a4 (by simpa [ints]using o5);have H5:=J.bP g5 b V;have s:=s.trans e.hb;have z:U.cells= #[U]/\U.oneCell'=true:=by obtain⟨A',k',rfl,_⟩:=aT o5;exact⟨rfl,rfl⟩
   try simp only[ptr,ae,ac,rG]
   rw[st_22 (o:=0+1) z.1 z.2 (wa_ok s dB),s,aB,au,waA_1];apply L197_0_ok;rw[e0];exact⟨rfl,T5,SM.then L ((Gx.bL B j).trans (one b g5)) (λ_ h=>h),H5,a5⟩
end
section
variable{w w0 w1 w2 w':World}{T T1 T2 T':dH}{h:Hm}{c:cx}{m m':bd}{o o' b sb lb k ab tb q kb fb:Nat}{es es':List TypeId}{su:lC}
theorem wa_plain{A:Option Addr}{wb:Nat}{x:WaV}(R:Rel w T)(hT:T kb=some (waN o wb x))(F:WaF w T kb wb x A k):∃E:dH,Rel w E/\
  E kb=some (.st o 290 ((waL wb x (.slice A x.l.length k)).map fF.v))/\
  (∀ q,(Value.slice A x.l.length k).ownBlock=some q->∃vs:List Value,E q=some (.st 0 3 (vs.map fF.v))/\vs.take x.l.length=ints x.l)/\
  ∀q,q≠kb->(Value.slice A x.l.length k).ownBlock≠some q->E q=T q:=by
 rcases F.own.2 with⟨e,U⟩|⟨g,cap,m,e,_,M,O,_,P,H⟩
 ·obtain rfl:A=none:=by injection e
  refine⟨ig T kb (.st o 290 ((waL wb x (.slice none x.l.length k)).map fF.v)),⟨λy o' Q I a=>?_,λy S a=>?_⟩,ax,λq t=>(by cases t),λq t _=>aC t⟩
  ·by_cases b:y=kb
   ·subst b;rw[ax]at a;cases a;exact⟨_,F.hb,by rw[List.length_map];rfl,λj c v d f=>cells_v j c v d f⟩
   ·rw[aC b]at a;obtain⟨us,N⟩:=R.node y _ _ _ a;refine⟨us,N.hb,N.len,λj c v d f=>?_⟩;have s:=N.each j c v d f;cases c with
    |v u=>exact s
    |gr e' z n us=>exact⟨s.1,λp hp=>by rw[aC (lD hT (s.2 p hp))];exact s.2 p hp⟩
  ·by_cases b:y=kb
   ·subst b;exact R.lt y _ hT
   ·rw[aC b]at a;exact R.lt y _ a
 ·cases e;have B:T g=some (.own kb 1):=F.ot g rfl;have J:g≠kb:=lD hT B;let T1:dH:=ig (ig T kb (.st o 290 ((waL wb x (.slice (some ⟨g,0,none⟩) x.l.length k)).map fF.v))) g (.st 0 3 (m.toList.map fF.v))
  have C:T1 kb=some (.st o 290 ((waL wb x (.slice (some ⟨g,0,none⟩) x.l.length k)).map fF.v)):=by
   show ig _ _ _ kb=_;rw[aC (Ne.symm J),ax]
  have D:T1 g=some (.st 0 3 (m.toList.map fF.v)):=ax;have r:∀q,q≠kb->q≠g->T1 q=T q:=λq d f=>by
   show ig _ _ _ q=_;rw[aC f,aC d]
  refine⟨T1,⟨λy o' Q I a=>?_,λy S a=>?_⟩,C,λq t=>?_,λq t K=>r q t λL=>K (by rw[L];rfl)⟩
  ·by_cases b:y=kb
   ·subst b;rw[C]at a;cases a;exact⟨_,F.hb,by rw[List.length_map];rfl,λj c v d f=>cells_v j c v d f⟩
   ·by_cases i:y=g
    ·subst i;rw[D]at a;cases a;exact⟨m.toList,by rw[Array.toArray_toList];exact M,by simp,λj c v d f=>cells_v j c v d f⟩
    ·rw[r y b i]at a;obtain⟨us,N⟩:=R.node y _ _ _ a;refine⟨us,N.hb,N.len,λj c v d f=>?_⟩;have s:=N.each j c v d f;cases c with
     |v u=>exact s
     |gr e' z n us=>
      refine⟨s.1,λp hp=>?_⟩;have G:=s.2 p hp;rw[r p (lD hT G) λL=>by rw[L,B]at G;cases G;exact b rfl];exact G
  ·by_cases b:y=kb
   ·subst b;exact R.lt y _ hT
   ·by_cases i:y=g
    ·subst i;exact R.lt y _ B
    ·rw[r y b i]at a;exact R.lt y _ a
  ·cases t;exact⟨m.toList,D,by simpa using H⟩
theorem c_RetireW{A:Option Addr}{wb:Nat}{x:WaV}(R:Rel w T)(U:fN w T o b sb lb h c su)(O:qS su)(tag:Int)(hT:T kb=some (waN o' wb x))(F:WaF w T kb wb x A k)(hl:x.l.length<=100000):
  aa prog 198 [ptr b,bN tag,.slice A x.l.length k] w λv w'=>∃T',Gx (SO T o suT) w T w' T'/\fN w' T' o b sb lb h c (nV su tag x.l):=by
 obtain⟨B,R0,K,G,L⟩:=wa_plain R hT F;have C:∀q,q=kb\/(Value.slice A x.l.length k).ownBlock=some q->T q≠none/\∃(o:Nat) (e:TypeId) (vs:List Value),B q=some (.st o e (vs.map fF.v))/\e∉suT/\e≠215:=by
  rintro q (rfl|hq)
  ·exact⟨by rw[hT];simp,_,_,_,K,dC,dC⟩
  ·obtain⟨vs,f,_⟩:=G q hq;exact⟨by rw[F.ot q hq];simp,_,_,_,f,dC,dC⟩
 have i:∀q,¬(q=kb\/(Value.slice A x.l.length k).ownBlock=some q)->B q=T q:=λq hq=>L q (λe=>hq (.inl e)) (λe=>hq (.inr e));have M:∀q o e cs,T q=some (.st o e cs)->e=215\/e=258\/e=262->B q=some (.st o e cs):=λq s e cs hq P=>by
  rw[i q ?_];·exact hq
  rintro(rfl|hh)
  ·rw[hT]at hq;cases hq;revert P;decide
  ·rw[F.ot q hh]at hq;cases hq
 have U0:fN w B o b sb lb h c su:=U.agree (λq hq=>by
  rw[i q λhh=>(C q hh).1 hq];exact hq) M
 have hx:SlX (λq=>q=lb) w B (.slice A x.l.length k) x.l:=by
  refine⟨A,k,rfl,λw' T' g=>?_⟩;cases A with
  |none=>
   have Q:ints x.l= []:=by
    rcases F.own.2 with⟨_,Q⟩|⟨g,cap,S,e,_⟩
    ·rw[List.length_eq_zero_iff.1 Q];rfl
    ·cases e
   rw[Q];exact fp.nil _ _
  |some p=>
   rcases F.own.2 with⟨e,_⟩|⟨g',cap,S,e,_,hg,a3,_,a4,a5⟩
   ·cases e
   ·cases e;obtain⟨vs,f,D⟩:=G g' rfl;obtain⟨_,V,_⟩:=U0.l;have r:=g.off g' _ f (ay f V dC);have E:=g.rel.kK r;intro j u H;refine⟨_,rfl,?_⟩;rw[eL,fT,E,aN];have t:(vs.take x.l.length)[j]? =some u:=by rw[D];exact H
    have W:=(bY.1 t).1;rw[dt]at W;rw[List.getElem?_take_of_lt dB]at t;simpa using t
 refine(c_SuRetire R0 U0 O tag hx hl).mono ?_;rintro v w1 ⟨T1,Y,U1⟩;have Z:∀q,q=kb\/(Value.slice A x.l.length k).ownBlock=some q->¬SO B o suT q:=λq hq=>by
  obtain⟨_,s,I,d,f,D,_⟩:=C q hq;exact SO.un f (.inr D)
 obtain⟨T',g,tn,ty⟩:=Gx.plain (X:=λq=>q=kb\/(Value.slice A x.l.length k).ownBlock=some q) R R0 (λq hq=>by obtain⟨a,s,I,d,f,_⟩:=C q hq;exact⟨a,s,I,d,f⟩) i (λy s I a6 d j v e' z n us p hy m J H hv hp=>by
  rcases hy with rfl|hy
  ·rw[hT]at m;cases m;rw[F.hb]at J;have a1:d=waL wb x (.slice A x.l.length k):=by
    have:(waA wb (.slice A x.l.length k) x.done)=d.toArray:=by cases J;rfl
    rw[waL,this]
   subst a1;have a2:=(bY.1 H).1;have h7:j=0\/j=1\/j=2:=by simp[waC]at a2;omega
   rcases h7 with rfl|rfl|rfl
   ·cases H
   ·cases hv;exact .inr hp
   ·cases H
  ·rw[F.ot y hy]at m;cases m) Y Z
 refine⟨T',g.mono λq ⟨e,cs,f,D⟩=>⟨e,cs,?_,D⟩,U1.agree (λq hq=>?_) λq s e cs hq P=>?_⟩
 ·rw[<- i q λhh=>by obtain⟨_,s,I,d,r,E,_⟩:=C q hh;rw[f]at r;cases r;exact E D];exact f
 ·rw[tn q λhh=>by obtain⟨_,s,I,d,r,_⟩:=C q hh;rw[Y.off q _ r (Z q hh)]at hq;cases hq];exact hq
 ·rw[tn q λhh=>by
   obtain⟨_,o2,e2,vs2,r,E,h5⟩:=C q hh;rw[Y.off q _ r (Z q hh)]at hq;cases hq;rcases P with rfl|rfl|rfl
   ·exact h5 rfl
   ·exact E dC
   ·exact E dC]
  exact hq
end
section
variable{w w0 w1 w2 w':World}{T T1 T2 T':dH}{h:Hm}{c:cx}{m m':bd}{o o' b sb lb k ab tb q kb fb eb:Nat}{es es':List TypeId}{su:lC}{f:FrV}{kv pv gv:Value}
def frA(b:Nat)(f:FrV)(a kv pv gv:Value):Array Value:= #[ptr b,bN f.at',bN f.steps,bN f.point,bN f.back,bN f.tag,a,kv,pv,gv,bN f.code,.bool f.done]
def frN(o b:Nat)(f:FrV)(a kv pv gv:Value):Nod:= .st o 243 ((frA b f a kv pv gv).toList.map fF.v)
structure FrF(w:World)(fb b:Nat)(f:FrV)(ev kv pv gv:Value):Prop where
 s:an (hp w fb) (0+0)=some (ptr b)
 at':an (hp w fb) (0+1)=some (bN f.at')
 steps:an (hp w fb) (0+2)=some (bN f.steps)
 point:an (hp w fb) (0+3)=some (bN f.point)
 back:an (hp w fb) (0+4)=some (bN f.back)
 tag:an (hp w fb) (0+5)=some (bN f.tag)
 e:an (hp w fb) (0+6)=some ev
 k:an (hp w fb) (0+7)=some kv
 p:an (hp w fb) (0+8)=some pv
 g:an (hp w fb) (0+9)=some gv
 code:an (hp w fb) (0+10)=some (bN f.code)
 done:an (hp w fb) (0+11)=some (.bool f.done)
theorem fr_f{a:Value}(R:Rel w T)(hT:T fb=some (frN o b f a kv pv gv)):FrF w fb b f a kv pv gv:=by
 have hb:hp w fb=some (.cells (frA b f a kv pv gv) 243):=R.kK hT;constructor<;>rw[hb]<;>rfl
def FrR(w:World)(T:dH)(o fb b:Nat)(h:Hm)(f:FrV):Prop:=∃eb x y z,T fb=some (frN o b f (ptr eb) (.pointer x) (.pointer y) (.pointer z))/\EdR T o eb h f.e/\
 (f.at'=2->f.done=false->∃kb,x=some ⟨kb,0,none⟩/\WaR T o kb h f.k)/\(f.at'=3->f.done=false->∃a,y=some ⟨a,0,none⟩/\PuR w T o a h.sb f.b)/\(f.at'=4->f.done=false->∃c,z=some ⟨c,0,none⟩/\GiR w T o c h f.g)
def frT:List TypeId:= [258,262,287,290,282,293,243]
theorem c_Free(R:Rel w T)(U:fN w T o b sb lb h c su)(slot gen:Int):aa prog 143 [ptr b,bN slot,bN gen] w λv w'=>∃fb T',v=ptr fb/\Gx (λ_=>False) w T w' T'/\FrR w' T' o fb b h (tm slot gen):=by
 apply F143_ok;obtain⟨u0,_,_⟩:=pU R U;simp only[F143,ptr,ae,ac,jb,fW,u0];refine(c_End R slot gen o).mono ?_;rintro _ w1 ⟨eb,T1,rfl,d,e⟩;have a:ai prog (Instr.build 243 #[(0,ptr b),(6,ptr eb)])=some (.agg (frA b (tm slot gen) (ptr eb) (.pointer none) (.pointer none) (.pointer none))):=bd_243_0_6;simp only[ptr]at a;simp only[ptr,a,ak,aq,ac];have g:=Gx.pR (S:=λ_=>False) d.rel o 243 (frA b (tm slot gen) (ptr eb) (.pointer none) (.pointer none) (.pointer none)).toList;exact⟨w1.heap.size,_,rfl,d.trans g,eb,none,none,none,ax,g.off eb _ e (λh=>h),(λh=>by cases h),(λh=>by cases h),λh=>by cases h⟩
theorem c_back(R:Rel w T)(H:dG T h c m)(Q:o≠0)(U:fN w T o b sb lb h c su){x y z:Option Addr}(hT:T fb=some (frN o b f (ptr eb) (.pointer x) (.pointer y) (.pointer z)))(E:EdR T o eb h f.e):
  aa prog 195 [ptr fb] w λv w'=>v= .tuple #[]/\∃T',Gx (SO T o [243]) w T w' T'/\FrR w' T' o fb b h (se f):=by
 apply F195_ok;have F:=fr_f R hT;obtain⟨u0,_,_⟩:=pU R U;obtain⟨_,_,_,I,_⟩:=mR R H;have n:=(ad.refl [] w).drew;have J:=(ed_f R E).slot;simp only[F195,ptr,ae,ac,zS,fa_243_0,fa_243_6,jb,fa_153_3,fa_287_1,jD,fW,lU,ld_239,ag,F.s,F.e,u0,I,J,bs_22_1];generalize d:w.drew.alloc _=w1;have C:ad [] w.drew w1:=by rw[<- d];exact(ad.refl _ _).alloc _
 have K:hp w1 w.drew.heap.size=some (.cells #[bN f.e.slot] 3):=by rw[<- d,af,bU rfl]
 clear d;have L:=(R.aF n).aF C;have M:Lo w1 T (some ⟨w.drew.heap.size,0,none⟩) (ints [f.e.slot]):=⟨λj u q=>by
  have r:j=0:=by have:=(bY.1 q).1;simp[ints]at this;omega
  subst r;simp[ints]at q;subst q;exact⟨_,rfl,by rw[eL,fT,K];rfl⟩,λp hp _=>by cases hp;exact(R.aF n).fresh (cy _)⟩
 refine(c_Push (l:= [f.e.slot]) L M (by simp) o).mono ?_;rintro _ w2 ⟨k,T2,rfl,_,_,i,D⟩;have a:=i.off fb _ hT (λh=>h);have t:Gx (SO T o [243]) w T w2 T2:=(Gx.bL R (n.trans C)).trans (SO.no i);simp only[ptr,ac,fa_243_8];refine aA (A':=frA b {f with b:=puNew [f.e.slot]} (ptr eb) (.pointer x) (ptr k) (.pointer z)) i.rel a sz_241 ⟨rfl,rfl⟩ rfl (by show 8<12;omega) λS V G A _ _=>?_;try simp only[ac,fa_243_1]
 refine aA (A':=frA b (se f) (ptr eb) (.pointer x) (ptr k) (.pointer z)) G.rel A aE ⟨rfl,rfl⟩ rfl (by show 1<12;omega) λW O P B _ _=>?_;have g:=G.trans P;refine⟨by first|rfl|trivial,O,SO.then t (SO.one (es:= [243]) a dC g) (λ_ h=>h),eb,x,some ⟨k,0,none⟩,z,B,g.off eb _ (i.off eb _ E (λh=>h)) (ay (i.off eb _ E (λh=>h)) a dC),(λh=>by cases h),(λ_ _=>⟨k,rfl,D.gx g (by obtain⟨_,_,hp,_⟩:=D;exact ay hp a dC)⟩),λh=>by cases h⟩
structure FrOk(c:cx)(f:FrV):Prop where
 at':f.at'<=4
 steps:0<=f.steps/\f.steps<=1000000000
 e:f.at'=0->EdOk c f.e
 k:f.at'=2->WaOk c f.k
 p:f.at'=3->s9 (dF c) f.b
 g:f.at'=4->s9 (bB c) f.g.p
theorem frOne{a:Value}(hT:T fb=some (frN o b f a kv pv gv))(g:Gx (λq=>q=fb) w T w' T'):Gx (SM h T o frT) w T w' T':=SO.toM (SO.one (es:= [243]) hT dC g) dC
theorem frUnU{d:Value}(U:fN w T o b sb lb h c su)(hT:T fb=some (frN o b f d kv pv gv))(g:Gx (λq=>q=fb) w T w' T'):fN w' T' o b sb lb h c su:=
 U.gx g (ay U.n hT dC) (by obtain⟨_,a,_⟩:=U.s;exact ay a hT dC) (by obtain⟨_,a,_⟩:=U.l;exact ay a hT dC)
theorem c_FrStep(N:gG c)(R:Rel w T)(H:dG T h c m)(j:o≠0)(M:ee c m)(U:fN w T o b sb lb h c su)(O:qS su)(A:FrR w T o fb b h f)(OF:FrOk c f):
  aa prog 151 [ptr fb] w λv w'=>v= .bool (!f.done)/\∃T',Gx (SM h T o frT) w T w' T'/\dG T' h c (et c m su f).1/\fN w' T' o b sb lb h c (et c m su f).2.1/\FrR w' T' o fb b h (et c m su f).2.2:=by
 apply F151_ok;have A0:=A;obtain⟨eb,x,y,z,hT,E,hx,hy,hz⟩:=A;have F:=fr_f R hT;cases hd:f.done with
 |true=>
  have Fd:=F.done;rw[hd]at Fd;simp only[F151,ptr,ae,ac,sI,az,Fd,zS];rw[et,bU hd];exact⟨by first|rfl|trivial,T,Gx.refl R,H,U,A0⟩
 |false=>
 have Fd:=F.done;rw[hd]at Fd;have os:=OF.steps;have ew:IntKind.i64.wrap (f.steps+1)=f.steps+1:=ap dB dB;rw[F151];simp only[ptr,ae,ac,sI,fa_243_2,az,ag,Fd,F.steps,aj,ew,zS];refine aA (A':=frA b {f with steps:=f.steps+1} (ptr eb) (.pointer x) (.pointer y) (.pointer z)) R hT aE ⟨rfl,rfl⟩ rfl (by show 2<12;omega) λw1 T1 g1 I d3 c1=>?_;have U1:=frUnU U hT g1;have Q:=H.bP g1 hT j;have R1:=g1.rel;have E1:EdR T1 o eb h f.e:=g1.off eb _ E (ay E hT dC);have F1:=fr_f R1 I;obtain⟨u0,_,_⟩:=pU R1 U1;have a2:Gx (SM h T o frT) w T w1 T1:=frOne hT g1;simp only[ptr,ae,ac,zS,fa_243_0,fa_243_1,jb,jD,fW,ag,F1.s,u0];have fin:∀(w5:World) (Z:dH) (r:bd×lC×FrV),et c m su f=r->Gx (SM h T o frT) w T w5 Z->dG Z h c r.1->fN w5 Z o b sb lb h c r.2.1->FrR w5 Z o fb b h r.2.2->P151_0 w5 (λv w'=>v= .bool true/\∃T',Gx (SM h T o frT) w T w' T'/\dG T' h c (et c m su f).1/\fN w' T' o b sb lb h c (et c m su f).2.1/\FrR w' T' o fb b h (et c m su f).2.2):=by
  rintro w5 Z r rfl h1 h2 h3 h4;apply L151_0_ok;exact⟨rfl,Z,h1,h2,h3,h4⟩
 have C:et c m su f=(if f.at'=0 then
   ((fu c m f.e).1,su,if(fu c m f.e).2.done=false then{f with steps:=f.steps+1,e:=(fu c m f.e).2}
    else if(fu c m f.e).2.code≠0 then{f with steps:=f.steps+1,e:=(fu c m f.e).2,point:=f.steps+1,code:=(fu c m f.e).2.code,done:=true}
    else if 0<=(fu c m f.e).2.chunk then{f with steps:=f.steps+1,e:=(fu c m f.e).2,point:=f.steps+1,code:=(fu c m f.e).2.code,at':=1}
    else se {f with steps:=f.steps+1,e:=(fu c m f.e).2,point:=f.steps+1,code:=(fu c m f.e).2.code})
  else if f.at'=1 then(m,su,{f with steps:=f.steps+1,tag:=fE (cf m 2),k:=⟨[f.e.chunk],false⟩,at':=2})
  else if f.at'=2 then
   (if(ic c m f.k).done then(m,nV su f.tag (ic c m f.k).l,se {f with steps:=f.steps+1,k:=ic c m f.k})else(m,su,{f with steps:=f.steps+1,k:=ic c m f.k}))
  else if f.at'=3 then
   (if(eQ (dF c) m f.b).2.done then((eQ (dF c) m f.b).1,(fg c.2.2.2.2.1 su).2,{f with steps:=f.steps+1,b:=(eQ (dF c) m f.b).2,back:=f.steps+1,g:=ir (fg c.2.2.2.2.1 su).1,at':=4,done:=decide ((fg c.2.2.2.2.1 su).1.length=0)})
   else((eQ (dF c) m f.b).1,su,{f with steps:=f.steps+1,b:=(eQ (dF c) m f.b).2}))
  else((cO c m f.g).1,su,{f with steps:=f.steps+1,g:=(cO c m f.g).2,done:=(cO c m f.g).2.done})):=by
  rw[et,bV (by rw[hd];decide)];by_cases h0:f.at'=0
  ·simp only[h0,if_true];by_cases h1:(fu c m f.e).2.done=false
   ·simp[h1]
   ·simp[h1]
  ·simp[h0]
 have A5:f.at'=0\/f.at'=1\/f.at'=2\/f.at'=3\/f.at'=4:=by have:=OF.at';omega
 rcases A5 with q0|q0|q0|q0|q0
 . -- b2 b7 end
  rw[bU q0]at C;have W:an (hp w1 fb) (0+1)=some (bN 0):=by have t:an (hp w1 fb) (0+1)=some (bN (f.at':Nat)):=F1.at';rw[q0]at t;exact t
  simp only[ptr,ac,zS,fa_243_6,ld_239,W,F1.e];refine(c_EdStep N R1 Q j M E1 (OF.e q0)).mono ?_;rintro _ w2 ⟨rfl,T2,B,H2,E2⟩;have i:=B.off fb _ I (SM.un Q I j (.inr dC));have U2:=U1.sm Q B j (.inr dC);have S:=SM.then a2 (B.mono λk hk=>hk.imp id fun⟨e,cs,p,q⟩=>⟨e,cs,p,(show∀e∈ [287],e∈frT by decide) e q⟩) (λ_ h=>h)
  generalize hr:fu c m f.e=r at*;obtain⟨m2,e2⟩:=r;simp only at C E2 H2;have F2:=fr_f B.rel i;have G2:=ed_f B.rel E2;cases a6:e2.done with
  |false=>
   have a3:=G2.done;rw[a6]at a3;rw[bU a6]at C;simp only[ptr,ae,ac,zS,pz,az,F2.e,a3];rw[C];exact⟨by first|rfl|trivial,T2,S,H2,U2,eb,x,y,z,i,E2,(λh=>absurd (q0.symm.trans h) dC),(λh=>absurd (q0.symm.trans h) dC),λh=>absurd (q0.symm.trans h) dC⟩
  |true=>
   have a3:=G2.done;rw[a6]at a3;rw[bV (by rw[a6];decide)]at C;have X:=(ad.refl [] w2).drew;simp only[ptr,ae,ac,zS,fa_243_3,fa_287_8,pz,az,jd,F2.e,F2.steps,a3,G2.code];refine aA (A':=frA b {f with steps:=f.steps+1,e:=e2,point:=f.steps+1} (ptr eb) (.pointer x) (.pointer y) (.pointer z)) (B.rel.aF X) i aE ⟨rfl,rfl⟩ rfl (by show 3<12;omega) λw3 T3 J V _ _=>?_;try simp only[ac,fa_243_10]
   refine aA (A':=frA b {f with steps:=f.steps+1,e:=e2,point:=f.steps+1,code:=e2.code} (ptr eb) (.pointer x) (.pointer y) (.pointer z)) J.rel V sz_30 ⟨rfl,rfl⟩ rfl (by show 10<12;omega) λw4 T4 L d _ _=>?_;have a7:=J.trans L;have F4:=fr_f L.rel d;have E4:EdR T4 o eb h e2:=a7.off eb _ E2 (ay E2 i dC);have G4:=ed_f L.rel E4;have U4:=frUnU (U2.aF X) i a7;have H4:=H2.bP a7 i j;have b9:Gx (SM h T2 o frT) w2 T2 w4 T4:=(Gx.bL B.rel X).trans (frOne i a7);have b3:=SM.then S b9 (λ_ h=>h)
   by_cases hc:e2.code≠0
   ·rw[bU hc]at C;have hb:(e2.code !=0)=true:=by simpa using hc
    simp only[ac,zS,jd,F4.code,hb];refine aA (A':=frA b {f with steps:=f.steps+1,e:=e2,point:=f.steps+1,code:=e2.code,done:=true} (ptr eb) (.pointer x) (.pointer y) (.pointer z)) L.rel d m8 ⟨rfl,rfl⟩ rfl (by show 11<12;omega) λw5 Z D n _ _=>?_;exact fin w5 Z _ C (SM.then b3 (frOne d D) (λ_ h=>h)) (H4.bP D d j) (frUnU U4 d D) ⟨eb,x,y,z,n,D.off eb _ E4 (ay E4 d dC),(λ_ h=>by cases h),(λ_ h=>by cases h),λ_ h=>by cases h⟩
   ·rw[bV hc]at C;have hb:(e2.code !=0)=false:=by simpa using hc
    by_cases a8:0<=e2.chunk
    ·rw[bU a8]at C;simp only[ptr,ae,ac,zS,fa_287_6,jd,ag,F4.code,F4.e,G4.chunk,hb,a8];refine aA (A':=frA b {f with steps:=f.steps+1,e:=e2,point:=f.steps+1,code:=e2.code,at':=1} (ptr eb) (.pointer x) (.pointer y) (.pointer z)) L.rel d aE ⟨rfl,rfl⟩ rfl (by show 1<12;omega) λw5 Z D n _ _=>?_;exact fin w5 Z _ C (SM.then b3 (frOne d D) (λ_ h=>h)) (H4.bP D d j) (frUnU U4 d D) ⟨eb,x,y,z,n,D.off eb _ E4 (ay E4 d dC),(λh=>by cases h),(λh=>by cases h),λh=>by cases h⟩
    ·rw[bV a8]at C;simp only[ptr,ae,ac,zS,fa_287_6,jd,ag,F4.code,F4.e,G4.chunk,hb,a8];refine(c_back (f:={f with steps:=f.steps+1,e:=e2,point:=f.steps+1,code:=e2.code}) L.rel H4 j U4 d E4).mono ?_;rintro _ w5 ⟨rfl,Z,D,A5⟩;exact fin w5 Z _ C (SM.then b3 (SO.toM (h:=h) (es':=frT) D dC) (λ_ h=>h)) (H4.so D j) (U4.so D (.inr dC)) A5
 . -- b2 epoch is read
  have C:et c m su f=(m,su,{f with steps:=f.steps+1,tag:=fE (cf m 2),k:=⟨[f.e.chunk],false⟩,at':=2}):=by rw[C];simp[q0]
  have W:an (hp w1 fb) (0+1)=some (bN 1):=by have t:an (hp w1 fb) (0+1)=some (bN (f.at':Nat)):=F1.at';rw[q0]at t;exact t
  obtain⟨k6,_⟩:=mR R1 Q;simp only[ptr,ac,zS,eZ,bx,W,Int.reduceBEq,k6];refine(iR (a:=2) R1 Q M.two).mono ?_;rintro _ w2 ⟨rfl,_,T2,B,H2⟩;have i:=B.off fb _ I (Q.s8 I j);have U2:=U1.sm (o':=o) (es:= []) Q (SM.mem B) j (.inr dC);have E2:EdR T2 o eb h f.e:=B.off eb _ E1 (Q.s8 E1 j);have S:=SM.then a2 (SM.mem B) (λ_ h=>h)
  refine(c_Cut5 (iw M.u 2)).step ?_;try simp only[ac,fa_243_5]
  refine aA (A':=frA b {f with steps:=f.steps+1,tag:=fE (cf m 2)} (ptr eb) (.pointer x) (.pointer y) (.pointer z)) B.rel i aE ⟨rfl,rfl⟩ rfl (by show 5<12;omega) λw3 T3 J V _ _=>?_;have F3:=fr_f J.rel V;have E3:EdR T3 o eb h f.e:=J.off eb _ E2 (ay E2 i dC);have G3:=ed_f J.rel E3;simp only[ptr,ae,ac,fa_243_6,fa_287_6,ld_239,ag,F3.e,G3.chunk];refine(c_Walk J.rel f.e.chunk o).mono ?_;rintro _ w4 ⟨kb,T4,rfl,L,K4⟩;have d:=L.off fb _ V (λh=>h);simp only[ptr,ac,fa_243_7];refine aA (A':=frA b {f with steps:=f.steps+1,tag:=fE (cf m 2),k:=⟨[f.e.chunk],false⟩} (ptr eb) (ptr kb) (.pointer y) (.pointer z)) L.rel d sz_240 ⟨rfl,rfl⟩ rfl (by show 7<12;omega) λw5 Z D n _ _=>?_;try simp only[ae,ac,fa_243_1]
  refine aA (A':=frA b {f with steps:=f.steps+1,tag:=fE (cf m 2),k:=⟨[f.e.chunk],false⟩,at':=2} (ptr eb) (ptr kb) (.pointer y) (.pointer z)) D.rel n aE ⟨rfl,rfl⟩ rfl (by show 1<12;omega) λw6 T6 g6 a1 _ _=>?_;have Y:=D.trans g6;have E4:EdR T4 o eb h f.e:=L.off eb _ E3 (λh=>h);have E6:EdR T6 o eb h f.e:=Y.off eb _ E4 (ay E4 d dC);have K6:WaR T6 o kb h ⟨[f.e.chunk],false⟩:=Y.off kb _ K4 (ay K4 d dC);have c2:=SM.then (SM.then (SM.then S (frOne i J) (λ_ h=>h)) (SO.toM (h:=h) (es:= []) (es':=frT) (SO.no L) dC) (λ_ h=>h)) (frOne d Y) (λ_ h=>h)
  exact fin w6 T6 _ C c2 (((H2.bP J i j).no L).bP Y d j) (frUnU ((frUnU U2 i J).no L) d Y) ⟨eb,some ⟨kb,0,none⟩,y,z,a1,E6,(λ_ _=>⟨kb,rfl,K6⟩),(λh=>by cases h),λh=>by cases h⟩
 . -- b2 c3 is b8
  have C:et c m su f=(if(ic c m f.k).done then(m,nV su f.tag (ic c m f.k).l,se {f with steps:=f.steps+1,k:=ic c m f.k})else(m,su,{f with steps:=f.steps+1,k:=ic c m f.k})):=by rw[C];simp[q0]
  have W:an (hp w1 fb) (0+1)=some (bN 2):=by have t:an (hp w1 fb) (0+1)=some (bN (f.at':Nat)):=F1.at';rw[q0]at t;exact t
  obtain⟨kb,rfl,K⟩:=hx q0 hd;have K1:WaR T1 o kb h f.k:=g1.off kb _ K (ay K hT dC);simp only[ac,zS,fa_243_7,ld_240,W,Int.reduceBEq,F1.k];refine(c_WaStep N R1 Q j M K1 (OF.k q0)).mono ?_;rintro _ w2 ⟨rfl,T2,B,H2,K2⟩;have i:=B.off fb _ I (SM.un Q I j (.inr dC));have E2:EdR T2 o eb h f.e:=B.off eb _ E1 (SM.un Q E1 j (.inr dC));have U2:=U1.sm Q B j (.inr dC);have S:=SM.then a2 (B.mono λk hk=>hk.imp id fun⟨e,cs,p,q⟩=>⟨e,cs,p,(show∀e∈ [290],e∈frT by decide) e q⟩) (λ_ h=>h)
  have b6:(ic c m f.k).l.length<=100000:=by
   have:=(OF.k q0).m;unfold ic;split
   ·omega
   ·split
    ·show f.k.l.length<=_;omega
    ·simp only[cq,List.length_singleton];omega
  generalize hr:ic c m f.k=k2 at*;have F2:=fr_f B.rel i;obtain⟨Aa,kk,W2⟩:=wa_f B.rel K2;cases a9:k2.done with
  |false=>
   have a4:=W2.f2;rw[a9]at a4;rw[bV (by rw[a9];decide)]at C;simp only[ae,ac,zS,fa_290_2,az,F2.k,a4];exact fin w2 T2 _ C S H2 U2 ⟨eb,some ⟨kb,0,none⟩,y,z,i,E2,(λ_ _=>⟨kb,rfl,K2⟩),(λh=>absurd (q0.symm.trans h) dC),λh=>absurd (q0.symm.trans h) dC⟩
  |true=>
   have a4:=W2.f2;rw[a9]at a4;rw[bU a9]at C;have X:=(ad.refl [] w2).drew;simp only[ptr,ae,ac,zS,fa_243_5,rG,fa_290_2,az,ag,aK,F2.k,F2.s,F2.tag,a4,W2.f1];refine(c_RetireW (B.rel.aF X) (U2.aF X) O f.tag K2 (W2.aF X) b6).mono ?_;rintro _ w3 ⟨T3,J,U3⟩;have V:=J.off fb _ i (SO.un i (.inr dC));have E3:EdR T3 o eb h f.e:=J.off eb _ E2 (SO.un E2 (.inr dC));have H3:=H2.so J j;have c4:=SM.then (S.trans (Gx.bL B.rel X)) (SO.toM (h:=h) (es':=frT) J dC) (λ_ h=>h)
   try simp only[ptr,ae,ac]
   refine(c_back (f:={f with steps:=f.steps+1,k:=k2}) J.rel H3 j U3 V E3).mono ?_;rintro _ w4 ⟨rfl,T4,L,A4⟩;exact fin w4 T4 _ C (SM.then c4 (SO.toM (h:=h) (es':=frT) L dC) (λ_ h=>h)) (H3.so L j) (U3.so L (.inr dC)) A4
 . -- b2 slot is b4 back
  have C:et c m su f=(if(eQ (dF c) m f.b).2.done then((eQ (dF c) m f.b).1,(fg c.2.2.2.2.1 su).2,{f with steps:=f.steps+1,b:=(eQ (dF c) m f.b).2,back:=f.steps+1,g:=ir (fg c.2.2.2.2.1 su).1,at':=4,done:=decide ((fg c.2.2.2.2.1 su).1.length=0)})
   else((eQ (dF c) m f.b).1,su,{f with steps:=f.steps+1,b:=(eQ (dF c) m f.b).2})):=by rw[C];simp[q0]
  have W:an (hp w1 fb) (0+1)=some (bN 3):=by have t:an (hp w1 fb) (0+1)=some (bN (f.at':Nat)):=F1.at';rw[q0]at t;exact t
  obtain⟨pb,rfl,P⟩:=hy q0 hd;have P1:PuR w1 T1 o pb h.sb f.b:=P.gx g1 (by obtain⟨_,_,hp,_⟩:=P;exact ay hp hT dC);simp only[ac,zS,fa_243_8,ld_241,W,Int.reduceBEq,F1.p];refine(c_PuStep R1 Q j Q.sT (M.spare N) P1 (OF.p q0)).mono ?_;rintro _ w2 ⟨T2,B,H2,P2⟩;have b5:∃A k,T1 pb=some (puN o h.sb A k f.b):=by obtain⟨A,k,hp,_⟩:=P1;exact⟨A,k,hp⟩
  obtain⟨Ax,kx,b5⟩:=b5;have B:Gx (SM h T1 o [293]) w1 T1 w2 T2:=SM.two b5 dC B;have i:=B.off fb _ I (SM.un Q I j (.inr dC));have E2:EdR T2 o eb h f.e:=B.off eb _ E1 (SM.un Q E1 j (.inr dC));have U2:=U1.sm Q B j (.inr dC);have S:=SM.then a2 (B.mono λk hk=>hk.imp id fun⟨e,cs,p,q⟩=>⟨e,cs,p,(show∀e∈ [293],e∈frT by decide) e q⟩) (λ_ h=>h)
  generalize hr:eQ (dF c) m f.b=r at*;obtain⟨m2,p2⟩:=r;simp only at C P2 H2;have F2:=fr_f B.rel i;have c5:=P2;obtain⟨Ap,kp,c6,_⟩:=P2;obtain⟨_,_,_,_,_,f4⟩:=pu_f B.rel c6;cases b1:p2.done with
  |false=>
   rw[b1]at f4;rw[bV (by rw[b1];decide)]at C;simp only[ae,ac,zS,mH,az,F2.p,f4];exact fin w2 T2 _ C S H2 U2 ⟨eb,x,some ⟨pb,0,none⟩,z,i,E2,(λh=>absurd (q0.symm.trans h) dC),(λ_ _=>⟨pb,rfl,c5⟩),λh=>absurd (q0.symm.trans h) dC⟩
  |true=>
   rw[b1]at f4;rw[bU b1]at C;simp only[ae,ac,zS,fa_243_4,mH,az,F2.p,F2.steps,f4];refine aA (A':=frA b {f with steps:=f.steps+1,b:=p2,back:=f.steps+1} (ptr eb) (.pointer x) (ptr pb) (.pointer z)) B.rel i aE ⟨rfl,rfl⟩ rfl (by show 4<12;omega) λw3 T3 J V _ _=>?_;have F3:=fr_f J.rel V;have H3:=H2.bP J i j;have U3:=frUnU U2 i J;have E3:EdR T3 o eb h f.e:=J.off eb _ E2 (ay E2 i dC);simp only[ptr,ac,F3.s];refine(c_Spill N J.rel H3 j U3 O).mono ?_;rintro _ w4 ⟨gb,T4,rfl,L,U4,G4⟩;have d:=L.off fb _ V (SO.un V (.inr dC));have E4:EdR T4 o eb h f.e:=L.off eb _ E3 (SO.un E3 (.inr dC));have H4:=H3.so L j;simp only[ptr,ac,fa_243_9];refine aA (A':=frA b {f with steps:=f.steps+1,b:=p2,back:=f.steps+1,g:=ir (fg c.2.2.2.2.1 su).1} (ptr eb) (.pointer x) (ptr pb) (ptr gb)) L.rel d sz_235 ⟨rfl,rfl⟩ rfl (by show 9<12;omega) λw5 Z D n _ _=>?_;try simp only[ae,ac,fa_243_1]
   refine aA (A':=frA b {f with steps:=f.steps+1,b:=p2,back:=f.steps+1,g:=ir (fg c.2.2.2.2.1 su).1,at':=4} (ptr eb) (.pointer x) (ptr pb) (ptr gb)) D.rel n aE ⟨rfl,rfl⟩ rfl (by show 1<12;omega) λw6 T6 g6 a1 _ _=>?_;have Y:=D.trans g6;have F6:=fr_f g6.rel a1;have G6:=G4.gx Y (by obtain⟨q,v,hq,_⟩:=G4;exact ay hq d dC) (λq cs hq=>ay hq d dC);have d6:an (hp w6 gb) (0+2)=some (.bool (ir (fg c.2.2.2.2.1 su).1).done):=by obtain⟨q,v,hg,_⟩:=G6;rw[nd_l g6.rel hg];rfl
   simp only[ptr,ae,ac,mG,ld_235,az,F6.g,d6];refine aA (A':=frA b {f with steps:=f.steps+1,b:=p2,back:=f.steps+1,g:=ir (fg c.2.2.2.2.1 su).1,at':=4,done:=(ir (fg c.2.2.2.2.1 su).1).done} (ptr eb) (.pointer x) (ptr pb) (ptr gb)) g6.rel a1 m8 ⟨rfl,rfl⟩ rfl (by show 11<12;omega) λw7 T7 g7 c7 _ _=>?_;have a5:=Y.trans g7;have G7:=G4.gx a5 (by obtain⟨q,v,hq,_⟩:=G4;exact ay hq d dC) (λq cs hq=>ay hq d dC);have c8:=SM.then (SM.then (SM.then S (frOne i J) (λ_ h=>h)) (SO.toM (h:=h) (es':=frT) L dC) (λ_ h=>h)) (frOne d a5) (λ_ h=>h)
   exact fin w7 T7 _ C c8 (H4.bP a5 d j) (frUnU U4 d a5) ⟨eb,x,some ⟨pb,0,none⟩,some ⟨gb,0,none⟩,c7,a5.off eb _ E4 (ay E4 d dC),(λh=>by cases h),(λh=>by cases h),λ_ _=>⟨gb,rfl,G7⟩⟩
 . -- d1 is d2 is b4
  have C:et c m su f=((cO c m f.g).1,su,{f with steps:=f.steps+1,g:=(cO c m f.g).2,done:=(cO c m f.g).2.done}):=by rw[C];simp[q0]
  have W:an (hp w1 fb) (0+1)=some (bN 4):=by have t:an (hp w1 fb) (0+1)=some (bN (f.at':Nat)):=F1.at';rw[q0]at t;exact t
  obtain⟨gb,rfl,G⟩:=hz q0 hd;have G1:GiR w1 T1 o gb h f.g:=G.gx g1 (by obtain⟨q,v,hq,_⟩:=G;exact ay hq hT dC) (λq cs hq=>ay hq hT dC);simp only[ac,zS,fa_243_9,ld_235,W,Int.reduceBEq,F1.g];refine(c_GiStep R1 Q j (M.pool N) G1 (OF.g q0)).mono ?_;rintro _ w5 ⟨Z,D,H5,G5⟩;have n:=D.off fb _ I (SM.un Q I j (.inr dC));have E5:EdR Z o eb h f.e:=D.off eb _ E1 (SM.un Q E1 j (.inr dC));have c9:=SM.then a2 (D.mono λk hk=>hk.imp id fun⟨e,cs,p,q⟩=>⟨e,cs,p,(show∀e∈ [282,293],e∈frT by decide) e q⟩) (λ_ h=>h)
  have U5:=U1.sm Q D j (.inr dC);have F5:=fr_f D.rel n;have d4:an (hp w5 gb) (0+2)=some (.bool (cO c m f.g).2.done):=by obtain⟨q,v,hg,_⟩:=G5;rw[nd_l D.rel hg];rfl
  simp only[ae,ac,mG,az,F5.g,d4];refine aA (A':=frA b {f with steps:=f.steps+1,g:=(cO c m f.g).2,done:=(cO c m f.g).2.done} (ptr eb) (.pointer x) (.pointer y) (ptr gb)) D.rel n m8 ⟨rfl,rfl⟩ rfl (by show 11<12;omega) λw6 T6 g6 a1 _ _=>?_;have G6:=G5.gx g6 (by obtain⟨q,v,hq,_⟩:=G5;exact ay hq n dC) (λq cs hq=>ay hq n dC);exact fin w6 T6 _ C (SM.then c9 (frOne n g6) (λ_ h=>h)) (H5.bP g6 n j) (frUnU U5 n g6) ⟨eb,x,y,some ⟨gb,0,none⟩,a1,g6.off eb _ E5 (ay E5 n dC),(λh=>absurd (q0.symm.trans h) dC),(λh=>absurd (q0.symm.trans h) dC),λ_ _=>⟨gb,rfl,G6⟩⟩
end
section
variable{w w0 w1 w2 w':World}{T T1 T2 T':dH}{h:Hm}{c:cx}{m m':bd}{o o' b sb lb k ab tb q kb fb eb xb wb:Nat}{es es':List TypeId}{su:lC}{x:CrV}{pv:Value}
def crA(wb:Nat)(x:CrV)(pv:Value):Array Value:= #[ptr wb,bN x.cls,bN x.at',bN x.steps,bN x.point,bN x.slot,bN x.gen,pv,bN x.root.gen,bN x.root.mark,bN x.root.cls,bN x.root.off,bN x.code,.bool x.done]
def crN(o wb:Nat)(x:CrV)(pv:Value):Nod:= .st o 233 ((crA wb x pv).toList.map fF.v)
structure CrF(w:World)(xb wb:Nat)(x:CrV)(pv:Value):Prop where
 wb:an (hp w xb) (0+0)=some (ptr wb)
 cls:an (hp w xb) (0+1)=some (bN x.cls)
 at':an (hp w xb) (0+2)=some (bN x.at')
 steps:an (hp w xb) (0+3)=some (bN x.steps)
 point:an (hp w xb) (0+4)=some (bN x.point)
 slot:an (hp w xb) (0+5)=some (bN x.slot)
 gen:an (hp w xb) (0+6)=some (bN x.gen)
 p:an (hp w xb) (0+7)=some pv
 rg:an (hp w xb) (0+8+0)=some (bN x.root.gen)
 code:an (hp w xb) (0+12)=some (bN x.code)
 done:an (hp w xb) (0+13)=some (.bool x.done)
theorem cr_f(R:Rel w T)(hT:T xb=some (crN o wb x pv)):CrF w xb wb x pv:=by
 have hb:hp w xb=some (.cells (crA wb x pv) 233):=R.kK hT;constructor<;>rw[hb]<;>rfl
def CrR(T:dH)(o xb:Nat)(h:Hm)(x:CrV):Prop:=∃y,T xb=some (crN o h.wb x (.pointer y))/\(x.at'=0->x.done=false->∃a,y=some ⟨a,0,none⟩/\T a=some (poN o h.sb x.p))
def crT:List TypeId:= [270,233]
theorem c_Create(R:Rel w T)(H:dG T h c m)(cls:Int)(o:Nat):aa prog 138 [ptr h.wb,bN cls] w λv w'=>∃xb T',v=ptr xb/\Gx (λ_=>False) w T w' T'/\CrR T' o xb h (crNew cls):=by
 apply F138_ok;obtain⟨_,_,_,f,_⟩:=mR R H;simp only[F138,ptr,ae,ac,fa_153_3,lU,f,pr_mn,pr_mx];refine(c_Pop R 1 o).mono ?_;rintro _ w1 ⟨a,T1,rfl,_,_,e,d⟩;have b:ai prog (Instr.build 233 #[(0,ptr h.wb),(1,bN (min (max cls 0) 3)),(7,ptr a)])=some (.agg (crA h.wb (crNew cls) (ptr a))):=bd_233_0_1_7;simp only[ptr]at b;simp only[ptr,b,ak,aq,ac];have g:=Gx.pR (S:=λ_=>False) e.rel o 233 (crA h.wb (crNew cls) (ptr a)).toList;exact⟨w1.heap.size,_,rfl,e.trans g,some ⟨a,0,none⟩,ax,λ_ _=>⟨a,rfl,g.off a _ d (λh=>h)⟩⟩
structure CrOk(c:cx)(x:CrV):Prop where
 at':x.at'<=2
 steps:0<=x.steps/\x.steps<=1000000000
 p:x.at'=0->PoOk (dF c) x.p
 slot:x.at'≠0->0<=x.slot/\x.slot<cS c
 root:0<=x.root.gen/\x.root.gen<=4294967295
theorem crOne(hT:T xb=some (crN o wb x pv))(g:Gx (λq=>q=xb) w T w' T'):Gx (SM h T o crT) w T w' T':=SO.toM (SO.one (es:= [233]) hT dC g) dC
theorem c_CrStep(N:gG c)(R:Rel w T)(H:dG T h c m)(E:o≠0)(M:ee c m)(A:CrR T o xb h x)(L:CrOk c x):
  aa prog 145 [ptr xb] w λv w'=>v= .bool (!x.done)/\∃T',Gx (SM h T o crT) w T w' T'/\dG T' h c (eF c m x).1/\CrR T' o xb h (eF c m x).2:=by
 apply F145_ok;have A0:=A;obtain⟨y,hT,hy⟩:=A;have F:=cr_f R hT;cases Q:x.done with
 |true=>
  have Fd:=F.done;rw[Q]at Fd;simp only[F145,ptr,ae,ac,lT,az,Fd,zS];rw[eF,bU Q];exact⟨by first|rfl|trivial,T,Gx.refl R,H,A0⟩
 |false=>
 have Fd:=F.done;rw[Q]at Fd;have os:=L.steps;have b4:=N.b4;have ew:IntKind.i64.wrap (x.steps+1)=x.steps+1:=ap dB dB;rw[F145];simp only[ptr,ae,ac,lT,fa_233_3,az,ag,Fd,F.steps,aj,ew,zS];refine aA (A':=crA h.wb {x with steps:=x.steps+1} (.pointer y)) R hT aE ⟨rfl,rfl⟩ rfl (by show 3<14;omega) λw1 T1 g1 j b7 c1=>?_;have O:=H.bP g1 hT E;have U:=g1.rel;have V:=cr_f U j;obtain⟨k6,_⟩:=mR U O;have W:Gx (SM h T o crT) w T w1 T1:=crOne hT g1;simp only[ptr,ae,ac,zS,fa_233_0,fa_233_2,eZ,fW,bx,ag,V.wb,k6];have fin:∀(X:World) (I:dH) (r:bd×CrV),eF c m x=r->Gx (SM h T o crT) w T X I->dG I h c r.1->CrR I o xb h r.2->P145_0 X (λv w'=>v= .bool true/\∃T',Gx (SM h T o crT) w T w' T'/\dG T' h c (eF c m x).1/\CrR T' o xb h (eF c m x).2):=by
  rintro X I r rfl h1 h2 h4;apply L145_0_ok;exact⟨rfl,I,h1,h2,h4⟩
 have A3:x.at'=0\/x.at'=1\/x.at'=2:=by have:=L.at';omega
 rcases A3 with q0|q0|q0
 ·have B:eF c m x=(if(dK (dF c) m x.p).2.done=false then((dK (dF c) m x.p).1,{x with steps:=x.steps+1,p:=(dK (dF c) m x.p).2})
   else if(dS (dK (dF c) m x.p).2).length=0 then((dK (dF c) m x.p).1,{x with steps:=x.steps+1,p:=(dK (dF c) m x.p).2,point:=x.steps+1,code:=7,done:=true})
   else((dK (dF c) m x.p).1,{x with steps:=x.steps+1,p:=(dK (dF c) m x.p).2,point:=x.steps+1,slot:=(dS (dK (dF c) m x.p).2).getD 0 0,at':=1})):=by rw[eF,bV (by rw[Q];decide),bU q0]
  have G:an (hp w1 xb) (0+2)=some (bN 0):=by have t:an (hp w1 xb) (0+2)=some (bN (x.at':Nat)):=V.at';rw[q0]at t;exact t
  obtain⟨J,rfl,hP⟩:=hy q0 Q;have a3:=g1.off J _ hP (ay hP hT dC);simp only[ac,zS,fa_233_7,ld_229,G,V.p];refine(c_PoStep U O E O.sT (M.spare N) a3 (L.p q0)).mono ?_;rintro _ w2 ⟨T2,s,Y,P2⟩;have a4:=poStep_n (m:=m) (L.p q0);have b8:=(L.p q0).n;have s:Gx (SM h T1 o [270]) w1 T1 w2 T2:=SM.two a3 dC s;have b:=s.off xb _ j (SM.un O j E (.inr dC));have a5:=SM.then W (s.mono λk hk=>hk.imp id fun⟨e,cs,p,q⟩=>⟨e,cs,p,(show∀e∈ [270],e∈crT by decide) e q⟩) (λ_ h=>h)
  generalize hr:dK (dF c) m x.p=r at*;obtain⟨m2,p2⟩:=r;simp only at B P2 Y a4;have F2:=cr_f s.rel b;obtain⟨Ap,kp,Fp⟩:=po_f s.rel P2;have f6:=Fp.f6;cases K:p2.done with
  |false=>
   rw[K]at f6;rw[bU K]at B;simp only[ae,ac,zS,jP,az,F2.p,f6];rw[B];exact⟨by first|rfl|trivial,T2,a5,Y,some ⟨J,0,none⟩,b,λ_ _=>⟨J,rfl,P2⟩⟩
  |true=>
   rw[K]at f6;rw[bV (by rw[K];decide)]at B;simp only[ae,ac,zS,fa_233_4,jP,az,F2.p,F2.steps,f6];refine aA (A':=crA h.wb {x with steps:=x.steps+1,p:=p2,point:=x.steps+1} (ptr J)) s.rel b aE ⟨rfl,rfl⟩ rfl (by show 4<14;omega) λw3 T3 C d _ _=>?_;have F3:=cr_f C.rel d;have P3:=C.off J _ P2 (ay P2 b dC);have H3:=Y.bP C b E;have Z:=SM.then a5 (crOne b C) (λ_ h=>h)
   simp only[ptr,ac,F3.p];refine(c_Got C.rel P3 dB).mono ?_;rintro _ w4 ⟨Ag,kg,rfl,b9,Lg,c4⟩;have R4:=C.rel.aF c4;have a6:=Z.trans (Gx.bL C.rel c4);by_cases hz:(dS p2).length=0
   ·rw[bU hz]at B;have hb:(((dS p2).length:Int)==0)=true:=by rw[hz];rfl
    simp only[ac,zS,aQ,hb,fa_233_9];refine aA (A':=crA h.wb {x with steps:=x.steps+1,p:=p2,point:=x.steps+1,code:=7} (ptr J)) R4 d sz_30 ⟨rfl,rfl⟩ rfl (by show 12<14;omega) λX I D g _ _=>?_;try simp only[ae,ac,lT]
    refine aA (A':=crA h.wb {x with steps:=x.steps+1,p:=p2,point:=x.steps+1,code:=7,done:=true} (ptr J)) D.rel g m8 ⟨rfl,rfl⟩ rfl (by show 13<14;omega) λw6 T6 P z _ _=>?_;rw[B];have l:=D.trans P;exact⟨by first|rfl|trivial,T6,SM.then a6 (crOne d l) (λ_ h=>h),H3.bP l d E,_,z,λ_ h=>by cases h⟩
   ·rw[bV hz]at B;have hb:(((dS p2).length:Int)==0)=false:=cH dB;obtain⟨v0,a7⟩:∃v0,(dS p2)[0]? =some v0:=⟨_,bX dB⟩
    obtain⟨q,f,iq,lq⟩:=rd_int Lg.rd a7 kg;have iq:ai prog (Instr.indexAt 22 (.slice Ag (dS p2).length kg) (bN 0))=some (.pointer (some ⟨q,f,none⟩)):=iq;have a8:(dS p2).getD 0 0=v0:=by rw[cu,a7];rfl
    rw[a8]at B;simp only[ac,zS,aQ,hb,iq,lq,ag,ny];refine aA (A':=crA h.wb {x with steps:=x.steps+1,p:=p2,point:=x.steps+1,slot:=v0} (ptr J)) R4 d aE ⟨rfl,rfl⟩ rfl (by show 5<14;omega) λX I D g _ _=>?_;try simp only[ae,ac,fa_233_2]
    refine aA (A':=crA h.wb {x with steps:=x.steps+1,p:=p2,point:=x.steps+1,slot:=v0,at':=1} (ptr J)) D.rel g aE ⟨rfl,rfl⟩ rfl (by show 2<14;omega) λw6 T6 P z _ _=>?_;have l:=D.trans P;exact fin w6 T6 _ B (SM.then a6 (crOne d l) (λ_ h=>h)) (H3.bP l d E) ⟨_,z,λh=>by cases h⟩
 ·have B:eF c m x=(m,{x with steps:=x.steps+1,root:=aP (cf m (iI c x.slot.toNat)),at':=2}):=by rw[eF,bV (by rw[Q];decide)];simp[q0]
  have G:an (hp w1 xb) (0+2)=some (bN 1):=by have t:an (hp w1 xb) (0+2)=some (bN (x.at':Nat)):=V.at';rw[q0]at t;exact t
  have a1:=L.slot dB;have fs:an (hp w1 xb) (0+5)=some (bN ((x.slot.toNat:Nat):Int)):=by rw[dy a1.1];exact V.slot
  have cd:=(ad.refl [] w1).drew;simp only[ac,zS,ny,bJ,ag,G,Int.reduceBEq,fs,mQ (w:=w1.drew) (U.aF cd) O];refine(lE N (i:=x.slot.toNat) dB).mono ?_;rintro _ w2 ⟨rfl,c2⟩;have a9:=cd.trans c2;refine(iR (a:=iI c x.slot.toNat) (U.aF a9) O (M.rt dB)).mono ?_;rintro _ w3 ⟨rfl,_,T3,C,H3⟩;have d:=C.off xb _ j (O.s8 j E);have Z:=SM.then W ((Gx.bL (S:=SM h T1 o crT) U a9).trans (SM.mem C)) (λ_ h=>h)
  refine(iO (iw M.u _)).mono ?_;rintro _ w4 ⟨rfl,c4⟩;have R4:=C.rel.aF c4;try simp only[ac,fa_233_8]
  refine nd_ws (A':=crA h.wb {x with steps:=x.steps+1,root:=aP (cf m (iI c x.slot.toNat))} (.pointer y)) R4 d sz_231 ⟨rfl,rfl,dC⟩ rfl (by show 8+4<=14;omega) λX I D g _ _=>?_;try simp only[ae,ac,fa_233_2]
  refine aA (A':=crA h.wb {x with steps:=x.steps+1,root:=aP (cf m (iI c x.slot.toNat)),at':=2} (.pointer y)) D.rel g aE ⟨rfl,rfl⟩ rfl (by show 2<14;omega) λw6 T6 P z _ _=>?_;have l:=D.trans P;exact fin w6 T6 _ B (SM.then (Z.trans (Gx.bL C.rel c4)) (crOne d l) (λ_ h=>h)) (H3.bP l d E) ⟨_,z,λh=>by cases h⟩
 ·have B:eF c m x=(m.set (iI c x.slot.toNat) (lB ⟨aY x.root.gen,1,x.cls,0⟩),{x with steps:=x.steps+1,gen:=aY x.root.gen,done:=true}):=by rw[eF,bV (by rw[Q];decide)];simp[q0]
  have G:an (hp w1 xb) (0+2)=some (bN 2):=by have t:an (hp w1 xb) (0+2)=some (bN (x.at':Nat)):=V.at';rw[q0]at t;exact t
  have a1:=L.slot dB;have b1:=L.root;simp only[ac,zS,fa_233_8,fa_231_0,ag,G,Int.reduceBEq,V.rg];refine(c_rLater x.root.gen b1.2 w1 b1.1).step ?_;try simp only[ac,fa_233_6]
  generalize c5:aY x.root.gen=lt at*;refine aA (A':=crA h.wb {x with steps:=x.steps+1,gen:=lt} (.pointer y)) U j aE ⟨rfl,rfl⟩ rfl (by show 6<14;omega) λw2 T2 s b _ _=>?_;have F2:=cr_f s.rel b;have cd:=(ad.refl [] w2).drew;have b5:ai prog (Instr.build 231 #[(0,bN lt),(1,bN 1),(2,bN x.cls)])=some (.agg (lN ⟨lt,1,x.cls,0⟩)):=bd_231_0_1_2;simp only[ac,zS,fa_233_1,ag,F2.gen,F2.cls,b5];refine(sS _).mono ?_;rintro _ w3 ⟨bb,rfl,c3⟩;have a2:=cd.trans c3;have Y:=O.bP s j E;have F3:=cr_f (s.rel.aF a2) b;have b2:=(ad.refl [] w3).drew;have fs:an (hp w3 xb) (0+5)=some (bN ((x.slot.toNat:Nat):Int)):=by rw[dy a1.1];exact F3.slot
  simp only[kG,kH,ptr,ae,ac,zS,ny,bJ,ag,F3.wb,fs,mQ (w:=w3.drew) ((s.rel.aF a2).aF b2) Y];refine(lE N (i:=x.slot.toNat) dB).mono ?_;rintro _ w4 ⟨rfl,c4⟩;have b3:=(a2.trans b2).trans c4;refine(oM (a:=iI c x.slot.toNat) (s.rel.aF b3) Y (M.rt dB) _).mono ?_;rintro _ X ⟨_,I,D,H5⟩;have g:=D.off xb _ b (Y.s8 b E);have b6:=SM.then (SM.then W (crOne j s) (λ_ h=>h)) ((Gx.bL (S:=SM h T2 o crT) s.rel b3).trans (SM.mem D)) (λ_ h=>h)
  try simp only[ae,ac,lT]
  refine aA (A':=crA h.wb {x with steps:=x.steps+1,gen:=lt,done:=true} (.pointer y)) D.rel g m8 ⟨rfl,rfl⟩ rfl (by show 13<14;omega) λw6 T6 P z _ _=>?_;exact fin w6 T6 _ B (SM.then b6 (crOne g P) (λ_ h=>h)) (H5.bP P g E) ⟨_,z,λ_ h=>by cases h⟩
end
section
variable{w w0 w1 w2 w':World}{T T1 T2 T':dH}{h:Hm}{c:cx}{m m':bd}{o o' b sb k q kl wb:Nat}{es es':List TypeId}{x:LkV}
theorem Gx.putL{S:Nat->Prop}{a:Array Value}{e:TypeId}(g:Gx S w T w' T')(f:w.heap.size<=q)(c:T' q=none):Gx S w T (Ev.put w' q a e) T':=
 ⟨g.rel.frame ((bl.put _ q _ _).mono λk b=>by rw[b];exact c),⟨g.aF.os,g.aF.tape,g.aF.output,by rw[nt];exact g.aF.size,λk b d=>by rw[bm,bV dB];exact g.aF.block k b d⟩,g.off,g.own,g.non,g.ty⟩
def lkA(wb:Nat)(x:LkV):Array Value:= #[ptr wb,bN x.slot,bN x.gen,bN x.off,bN x.code,.bool x.done]
def lkN(o wb:Nat)(x:LkV):Nod:= .st o 226 ((lkA wb x).toList.map fF.v)
def LkR(T:dH)(o kl:Nat)(h:Hm)(x:LkV):Prop:=T kl=some (lkN o h.wb x)
theorem lk_f(R:Rel w T)(hT:T kl=some (lkN o wb x)):an (hp w kl) (0+0)=some (ptr wb)/\an (hp w kl) (0+1)=some (bN x.slot)/\an (hp w kl) (0+2)=some (bN x.gen)/\an (hp w kl) (0+3)=some (bN x.off)/\an (hp w kl) (0+4)=some (bN x.code)/\an (hp w kl) (0+5)=some (.bool x.done):=by
 have hb:hp w kl=some (.cells (lkA wb x) 226):=R.kK hT;rw[hb];exact⟨rfl,rfl,rfl,rfl,rfl,rfl⟩
theorem lk_tail{r:RtV}{e:TypeId}(R:Rel w T)(hT:T kl=some (lkN o wb x))(hb:hp w q=some (.cells (lN r) e))(m:T q=none):
  P149_0 (ptr kl) (ptr q) w λv w'=>v= .bool true/\∃T',Gx (λk=>k=kl) w T w' T'/\T' kl=some (lkN o wb (if ma r x.gen then{x with off:=r.off,done:=true}else{x with code:=3,done:=true})):=by
 apply L149_0_ok;simp only[L149_0,ptr,ae,ac,fa_226_5];refine aA (A':=lkA wb {x with done:=true}) R hT m8 ⟨rfl,rfl⟩ rfl (by show 5<6;omega) λw1 T1 d a _ _=>?_;obtain⟨_,_,n,_⟩:=lk_f d.rel a;have p:=(ad.refl [] w1).drew;have j:=(d.loc hb m).1;simp only[ac,zS,fa_226_2,ag,n,sf (w:=w1.drew) j];refine(c_Live r x.gen).mono ?_;rintro _ w2 ⟨rfl,s⟩;have b:=p.trans s;have l:=d.rel.aF b;have t:=b.at j (by simp);have f:=d.trans (Gx.bL d.rel b);cases y:ma r x.gen with
 |true=>
  simp only[ac,zS,pq,fa_226_3,ag,(rt_l t).2.2.2];refine aA (A':=lkA wb {x with off:=r.off,done:=true}) l a aE ⟨rfl,rfl⟩ rfl (by show 3<6;omega) λu g i c _ _=>?_;apply L149_1_ok;exact⟨rfl,g,f.trans i,c⟩
 |false=>
  simp only[ac,zS,rB];refine aA (A':=lkA wb {x with code:=3,done:=true}) l a sz_30 ⟨rfl,rfl⟩ rfl (by show 4<6;omega) λu g i c _ _=>?_;apply L149_1_ok;exact⟨rfl,g,f.trans i,c⟩
structure LkOk(c:cx)(x:LkV):Prop where
 slot:0<=x.slot/\x.slot<cS c
def lkT:List TypeId:= [226]
theorem c_LkStep(N:gG c)(R:Rel w T)(H:dG T h c m)(ho:o≠0)(M:ee c m)(A:LkR T o kl h x)(OX:LkOk c x):
  aa prog 149 [ptr kl] w λv w'=>v= .bool (!x.done)/\∃T',Gx (SM h T o lkT) w T w' T'/\dG T' h c m/\LkR T' o kl h (nW c m x):=by
 apply F149_ok (D:=DM T h);have hT:T kl=some (lkN o h.wb x):=A;obtain⟨f0,f1,f2,f3,f4,f5⟩:=lk_f R hT;cases hd:x.done with
 |true=>
  rw[hd]at f5;simp only[F149,ptr,ae,ac,fa_226_5,az,f5,zS];rw[nW,bU hd];exact⟨by first|rfl|trivial,T,Gx.refl R,H,A⟩
 |false=>
 rw[hd]at f5;have a5:=OX.slot;have b4:=N.b4;have P:=H.s8 hT ho;have da:DM T h kl=False:=dn H hT P;have dw:DM T h h.wb=False:=dn H H.wT (by obtain⟨n,hn⟩:=H.mT;exact ay H.wT hn dC);obtain⟨k6,_⟩:=mR R H;have fs:an (hp w kl) (0+1)=some (bN ((x.slot.toNat:Nat):Int)):=by rw[dy a5.1];exact f1
 have cd:=(ad.refl [] w).drew;have U:=R.aF cd;have g0:Gx (SM h T o lkT) w T w.drew T:=Gx.bL R cd;have a6:w.heap.size<=w.drew.heap.size:=cy _;have one:∀{w w':World} {T T':dH},T kl=some (lkN o h.wb x)->Gx (λq=>q=kl) w T w' T'->Gx (SM h T o lkT) w T w' T':=λhT g=>SO.toM (SO.one (es:= [226]) hT dC g) dC;have e0:nW c m x=if ma (aP (cf m (iI c x.slot.toNat))) x.gen then{x with off:=(aP (cf m (iI c x.slot.toNat))).off,done:=true}else{x with code:=3,done:=true}:=by rw[nW,bV (by rw[hd];decide)]
 rw[F149];simp only[ptr,ae,ac,fa_226_0,fa_226_1,fa_226_5,bJ,eZ,az,ag,fW,bx,f5,f0,fs,k6,zS,pS,da,dw,not_false_eq_true,true_and,mQ (w:=w.drew) U H];refine⟨?_,?_,?_,?_⟩
 ·try simp only[ptr]
  rw[tE];generalize E:World.alloc _ _=V;have f:ad [] w.drew V:=by rw[<- E];exact(ad.refl _ _).alloc _
  have a4:hp V (w.drew).heap.size=some (.cells (lN ⟨0,0,0,0⟩) 231):=by rw[<- E,af,bU rfl];rfl
  have X:T (w.drew).heap.size=none:=(U).fresh (cy _);have p:w.heap.size<=(w.drew).heap.size:=g0.size;clear E;obtain⟨q,F⟩:∃q,q=(w.drew).heap.size:=⟨_,rfl⟩
  rw[<- F]at a4 X p⊢;have r:=(U).aF f;have z:=g0.trans (Gx.bL (U) f);refine(lE N (i:=x.slot.toNat) dB).mono ?_;rintro _ v2 ⟨rfl,G⟩;refine⟨bG G,?_⟩;have s:=(r).aF G;have B:=z.trans (Gx.bL (r) G);have K:=G.at a4 (by simp);refine(iR (a:=iI c x.slot.toNat) (s) H (M.rt dB)).mono ?_;rintro _ W ⟨rfl,Y,T2,t,Z⟩;refine⟨lF (Y.mono λk hk=> .inl hk),?_⟩;have j:=t.rel;have C:=SM.then B (SM.mem t) (λ_ h=>h)
  have d:=t.off kl _ hT P;have L:=(t.loc K X).1;have y:=(t.loc K X).2;refine(iO (iw M.u _)).mono ?_;rintro _ v4 ⟨rfl,b⟩;refine⟨bG b,?_⟩;have a1:=(j).aF b;have I:=C.trans (Gx.bL (j) b);have l:=b.at L (by simp);try simp only[]
  rw[st_rt l rfl];have Q:=Gx.putL (a:=lN (aP (cf m (iI c x.slot.toNat)))) (e:=231) I p y;refine(lk_tail Q.rel d (ar (nZ l) _ _) y).mono ?_;rintro _ w9 ⟨rfl,T9,S,J⟩;refine⟨by first|rfl|trivial,T9,SM.then Q (one d S) (λ_ h=>h),Z.bP S d ho,?_⟩;rw[e0];exact J
 ·refine(lE N (i:=x.slot.toNat) dB).mono ?_;rintro _ V ⟨rfl,f⟩;refine⟨bG f,?_⟩;have r:=(U).aF f;have z:=g0.trans (Gx.bL (U) f);try simp only[]
  rw[tE];generalize E:World.alloc _ _=v2;have G:ad [] V v2:=by rw[<- E];exact(ad.refl _ _).alloc _
  have K:hp v2 (V).heap.size=some (.cells (lN ⟨0,0,0,0⟩) 231):=by rw[<- E,af,bU rfl];rfl
  have a2:T (V).heap.size=none:=(r).fresh (cy _);have p:w.heap.size<=(V).heap.size:=z.size;clear E;obtain⟨q,F⟩:∃q,q=(V).heap.size:=⟨_,rfl⟩
  rw[<- F]at K a2 p⊢;have s:=(r).aF G;have B:=z.trans (Gx.bL (r) G);refine(iR (a:=iI c x.slot.toNat) (s) H (M.rt dB)).mono ?_;rintro _ W ⟨rfl,Y,T2,t,Z⟩;refine⟨lF (Y.mono λk hk=> .inl hk),?_⟩;have j:=t.rel;have C:=SM.then B (SM.mem t) (λ_ h=>h)
  have d:=t.off kl _ hT P;have L:=(t.loc K a2).1;have y:=(t.loc K a2).2;refine(iO (iw M.u _)).mono ?_;rintro _ v4 ⟨rfl,b⟩;refine⟨bG b,?_⟩;have a1:=(j).aF b;have I:=C.trans (Gx.bL (j) b);have l:=b.at L (by simp);try simp only[]
  rw[st_rt l rfl];have Q:=Gx.putL (a:=lN (aP (cf m (iI c x.slot.toNat)))) (e:=231) I p y;refine(lk_tail Q.rel d (ar (nZ l) _ _) y).mono ?_;rintro _ w9 ⟨rfl,T9,S,J⟩;refine⟨by first|rfl|trivial,T9,SM.then Q (one d S) (λ_ h=>h),Z.bP S d ho,?_⟩;rw[e0];exact J
 ·refine(lE N (i:=x.slot.toNat) dB).mono ?_;rintro _ V ⟨rfl,f⟩;refine⟨bG f,?_⟩;have r:=(U).aF f;have z:=g0.trans (Gx.bL (U) f);refine(iR (a:=iI c x.slot.toNat) (r) H (M.rt dB)).mono ?_;rintro _ v2 ⟨rfl,Y,T2,t,Z⟩;refine⟨lF (Y.mono λk hk=> .inl hk),?_⟩;have s:=t.rel;have B:=SM.then z (SM.mem t) (λ_ h=>h)
  have d:=t.off kl _ hT P;try simp only[]
  rw[tE];generalize E:World.alloc _ _=W;have O:ad [] v2 W:=by rw[<- E];exact(ad.refl _ _).alloc _
  have L:hp W (v2).heap.size=some (.cells (lN ⟨0,0,0,0⟩) 231):=by rw[<- E,af,bU rfl];rfl
  have y:T2 (v2).heap.size=none:=(s).fresh (cy _);have p:w.heap.size<=(v2).heap.size:=B.size;clear E;obtain⟨q,F⟩:∃q,q=(v2).heap.size:=⟨_,rfl⟩
  rw[<- F]at L y p⊢;have j:=(s).aF O;have C:=B.trans (Gx.bL (s) O);refine(iO (iw M.u _)).mono ?_;rintro _ v4 ⟨rfl,b⟩;refine⟨bG b,?_⟩;have a1:=(j).aF b;have I:=C.trans (Gx.bL (j) b);have l:=b.at L (by simp);try simp only[]
  rw[st_rt l rfl];have Q:=Gx.putL (a:=lN (aP (cf m (iI c x.slot.toNat)))) (e:=231) I p y;refine(lk_tail Q.rel d (ar (nZ l) _ _) y).mono ?_;rintro _ w9 ⟨rfl,T9,S,J⟩;refine⟨by first|rfl|trivial,T9,SM.then Q (one d S) (λ_ h=>h),Z.bP S d ho,?_⟩;rw[e0];exact J
 ·refine(lE N (i:=x.slot.toNat) dB).mono ?_;rintro _ V ⟨rfl,f⟩;refine⟨bG f,?_⟩;have r:=(U).aF f;have z:=g0.trans (Gx.bL (U) f);refine(iR (a:=iI c x.slot.toNat) (r) H (M.rt dB)).mono ?_;rintro _ v2 ⟨rfl,Y,T2,t,Z⟩;refine⟨lF (Y.mono λk hk=> .inl hk),?_⟩;have s:=t.rel;have B:=SM.then z (SM.mem t) (λ_ h=>h)
  have d:=t.off kl _ hT P;refine(iO (iw M.u _)).mono ?_;rintro _ W ⟨rfl,O⟩;refine⟨bG O,?_⟩;have j:=(s).aF O;have C:=B.trans (Gx.bL (s) O);try simp only[]
  rw[tE];generalize E:World.alloc _ _=v4;have b:ad [] W v4:=by rw[<- E];exact(ad.refl _ _).alloc _
  have l:hp v4 (W).heap.size=some (.cells (lN ⟨0,0,0,0⟩) 231):=by rw[<- E,af,bU rfl];rfl
  have a3:T2 (W).heap.size=none:=(j).fresh (cy _);have p:w.heap.size<=(W).heap.size:=C.size;clear E;obtain⟨q,F⟩:∃q,q=(W).heap.size:=⟨_,rfl⟩
  rw[<- F]at l a3 p⊢;have a1:=(j).aF b;have I:=C.trans (Gx.bL (j) b);try simp only[ptr]
  rw[st_rt l rfl];have Q:=Gx.putL (a:=lN (aP (cf m (iI c x.slot.toNat)))) (e:=231) I p a3;refine(lk_tail Q.rel d (ar (nZ l) _ _) a3).mono ?_;rintro _ w9 ⟨rfl,T9,S,J⟩;refine⟨by first|rfl|trivial,T9,SM.then Q (one d S) (λ_ h=>h),Z.bP S d ho,?_⟩;rw[e0];exact J
end
section
variable{w w0 w1 w2 w':World}{T T1 T2 T':dH}{h:Hm}{c:cx}{m m':bd}{o o' b sb lb k q xb wb:Nat}{es es':List TypeId}{su:lC}{x:AdV}
def adA(a:Nat)(x:AdV):Array Value:= #[ptr a,bN x.at',bR x.old,.bool x.won,.bool x.done]
def adN(o a:Nat)(x:AdV):Nod:= .st o 268 ((adA a x).toList.map fF.v)
def AdR(T:dH)(o xb:Nat)(h:Hm)(x:AdV):Prop:=T xb=some (adN o h.eb x)
structure AdF(w:World)(xb pb:Nat)(x:AdV):Prop where
 e:an (hp w xb) (0+0)=some (ptr pb)
 at':an (hp w xb) (0+1)=some (bN x.at')
 old:an (hp w xb) (0+2)=some (bR x.old)
 won:an (hp w xb) (0+3)=some (.bool x.won)
 done:an (hp w xb) (0+4)=some (.bool x.done)
theorem ad_f{a:Nat}(R:Rel w T)(hT:T xb=some (adN o a x)):AdF w xb a x:=by
 have hb:hp w xb=some (.cells (adA a x) 268):=R.kK hT;constructor<;>rw[hb]<;>rfl
theorem ep_f(R:Rel w T)(H:dG T h c m):an (hp w h.eb) (0+0)=some (ptr h.mb)/\an (hp w h.eb) (0+1)=some (bN 2)/\an (hp w h.eb) (0+2)=some (bN (fH c 0))/\an (hp w h.eb) (0+3)=some (bN (cW c)):=by
 rw[R.kK H.eT];exact⟨rfl,rfl,rfl,rfl⟩
structure AdOk(c:cx)(x:AdV):Prop where
 at':x.at'<=cW c+1
 old:sR x.old
def adT:List TypeId:= [268]
theorem c_AdStep(N:gG c)(R:Rel w T)(H:dG T h c m)(p:o≠0)(M:ee c m)(A:AdR T o xb h x)(W:AdOk c x):
  aa prog 201 [ptr xb] w λv w'=>v= .bool (!x.done)/\∃T',Gx (SM h T o adT) w T w' T'/\dG T' h c (fy c m x).1/\AdR T' o xb h (fy c m x).2:=by
 apply F201_ok;have hT:T xb=some (adN o h.eb x):=A;have F:=ad_f R hT;have one:∀{w w':World} {T T':dH} {x:AdV},T xb=some (adN o h.eb x)->Gx (λq=>q=xb) w T w' T'->Gx (SM h T o adT) w T w' T':=λhT g=>SO.toM (SO.one (es:= [268]) hT dC g) dC;cases k:x.done with
 |true=>
  have Fd:=F.done;rw[k]at Fd;simp only[F201,ptr,ae,ac,nA,az,Fd,zS];rw[fy,bU k];exact⟨by first|rfl|trivial,T,Gx.refl R,H,A⟩
 |false=>
 have Fd:=F.done;rw[k]at Fd;have b1:=N.b1;have oa:=W.at';obtain⟨r,z,K,B⟩:=ep_f R H;have fin:∀(E:World) (G:dH) (L:bd) (C:AdV),C.at'=x.at'->fy c m x=(L,{C with at':=x.at'+1})->Gx (SM h T o adT) w T E G->dG G h c L->G xb=some (adN o h.eb C)->P201_0 (ptr xb) E (λv w'=>v= .bool true/\∃T',Gx (SM h T o adT) w T w' T'/\dG T' h c (fy c m x).1/\AdR T' o xb h (fy c m x).2):=by
  intro E G L C ha e O h2 I;apply L201_0_ok;have F5:=ad_f O.rel I;have fa:an (hp E xb) (0+1)=some (bN (x.at':Nat)):=by rw[<- ha];exact F5.at'
  have ew:IntKind.i64.wrap ((x.at':Int)+1)=((x.at'+1:Nat):Int):=by rw[ap dB dB];omega
  simp only[L201_0,ptr,ae,ac,fa_268_1,ag,fa,aj,ew];refine aA (A':=adA h.eb {C with at':=x.at'+1}) O.rel I aE ⟨rfl,rfl⟩ rfl (by show 1<5;omega) λw6 T6 X P _ _=>?_;rw[e];exact⟨by first|rfl|trivial,T6,SM.then O (one I X) (λ_ h=>h),h2.bP X I p,P⟩
 rw[F201];by_cases J:x.at'=0
 ·have j:fy c m x=(m,{x with old:=cf m 2,at':=x.at'+1}):=by rw[fy,bV (by rw[k];decide),bU J]
  have Fa:an (hp w xb) (0+1)=some (bN 0):=by have t:an (hp w xb) (0+1)=some (bN (x.at':Nat)):=F.at';rw[J]at t;exact t
  simp only[ptr,ae,ac,zS,fa_268_0,fa_268_1,nA,pj,fa_158_1,az,ag,qm,bx,Fd,F.e,Fa,r,z];refine(iR (a:=2) R H M.two).mono ?_;rintro _ w1 ⟨rfl,_,T1,f,y⟩;have b:=f.off xb _ hT (H.s8 hT p);try simp only[ac,fa_268_2]
  refine aA (A':=adA h.eb {x with old:=cf m 2}) f.rel b sz_33 ⟨rfl,rfl⟩ rfl (by show 2<5;omega) λw2 T2 i d _ _=>?_;exact fin w2 T2 m {x with old:=cf m 2} rfl j (SM.then (SM.mem f) (one b i) (λ_ h=>h)) (y.bP i b p) d
 ·have Y:((x.at':Int)==0)=false:=cH dB;have cd:=(ad.refl [] w).drew;have l:=cd.trans (ad.refl [] w.drew).drew;by_cases Z:x.at'<=cW c
  ·have j:fy c m x=(m,{x with done:=decide (cf m (fH c (x.at'-1))%2≠0/\cf m (fH c (x.at'-1))/2≠fE x.old),at':=x.at'+1}):=by rw[fy,bV (by rw[k];decide),bV J,bU Z]
   have s:(x.at':Int)<=(cW c:Int):=dB;have Q:IntKind.i64.wrap ((fH c 0:Int)+(x.at':Int))=(fH c 0:Int)+(x.at':Int):=ap dB (by unfold fH;omega);have S:IntKind.i64.wrap ((fH c 0:Int)+(x.at':Int)-1)=((fH c (x.at'-1):Nat):Int):=by rw[ap (by unfold fH;omega) (by unfold fH;omega)];unfold fH;omega
   simp only[ptr,ae,ac,zS,fa_268_0,fa_268_1,nA,pj,fa_158_2,fa_158_3,az,ag,qm,bx,Fd,F.e,F.at',r,K,B,Y,s,aj,aH,Q,S];refine(iR (a:=fH c (x.at'-1)) (R.aF l) H (M.pin dB)).mono ?_;rintro _ w1 ⟨rfl,_,T1,f,y⟩;have b:=f.off xb _ hT (H.s8 hT p);have n:Gx (SM h T o adT) w T w1 T1:=(Gx.bL R l).trans (SM.mem f);have hu:=iw M.u (fH c (x.at'-1));generalize hv:cf m (fH c (x.at'-1))=v at*;refine(c_GetPin hu).step ?_;have F1:=ad_f f.rel b;by_cases hp:v%2=0
   ·have j:fy c m x=(m,{x with at':=x.at'+1}):=by rw[j];simp[hp,k]
    simp only[ac,kG,kH,zS,hp,ne_eq,not_true_eq_false];refine aA (A':=adA h.eb {x with done:=false}) f.rel b m8 ⟨rfl,rfl⟩ rfl (by show 4<5;omega) λw2 T2 i d _ _=>?_;exact fin w2 T2 m {x with done:=false} rfl (by rw[j];cases x;simp only at k;rw[k]) (SM.then n (one b i) (λ_ h=>h)) (y.bP i b p) d
   ·have j:fy c m x=(m,{x with done:=decide (v/2≠fE x.old),at':=x.at'+1}):=by rw[j];simp[hp]
    simp only[ae,ac,kG,kH,zS,hp,reduceIte,ne_eq,not_false_eq_true,fa_268_2,br,F1.old];refine(c_Cut5 W.old).step ?_;have U:(v/2 !=fE x.old)=decide (v/2≠fE x.old):=by
     by_cases hh:v/2=fE x.old
     ·simp[hh]
     ·simp[hh,bne]
    simp only[ac,zS,U];refine aA (A':=adA h.eb {x with done:=decide (v/2≠fE x.old)}) f.rel b m8 ⟨rfl,rfl⟩ rfl (by show 4<5;omega) λw2 T2 i d _ _=>?_;exact fin w2 T2 m {x with done:=decide (v/2≠fE x.old)} rfl j (SM.then n (one b i) (λ_ h=>h)) (y.bP i b p) d
  ·have s:¬(x.at':Int)<=(cW c:Int):=dB;have j:fy c m x=(if cf m 2=x.old then(m.set 2 (IntKind.u64.wrap (x.old+1)),{x with won:=true,done:=true,at':=x.at'+1})else(m,{x with won:=false,done:=true,at':=x.at'+1})):=by rw[fy,bV (by rw[k];decide),bV J,bV Z]
   simp only[ptr,ae,ac,zS,fa_268_0,fa_268_1,fa_268_2,nA,pj,fa_158_1,fa_158_3,az,ag,br,qm,bx,Fd,F.e,F.at',F.old,r,z,B,Y,s,aj];refine(c_Cas (a:=2) (R.aF l) H M.two x.old _).mono ?_;rintro _ w1 ⟨rfl,_,T1,f,y⟩;have b:=f.off xb _ hT (H.s8 hT p);have n:Gx (SM h T o adT) w T w1 T1:=(Gx.bL R l).trans (SM.mem f);try simp only[ac,fa_268_3]
   refine aA (A':=adA h.eb {x with won:=decide (cf m 2=x.old)}) f.rel b m8 ⟨rfl,rfl⟩ rfl (by show 3<5;omega) λw2 T2 i d _ _=>?_;try simp only[ptr,ae,ac,nA]
   refine aA (A':=adA h.eb {x with won:=decide (cf m 2=x.old),done:=true}) i.rel d m8 ⟨rfl,rfl⟩ rfl (by show 4<5;omega) λw3 T3 g3 V _ _=>?_;have D:=i.trans g3;refine fin w3 T3 (if cf m 2=x.old then m.set 2 (IntKind.u64.wrap (x.old+1))else m) {x with won:=decide (cf m 2=x.old),done:=true} rfl ?_ (SM.then n (one b D) (λ_ h=>h)) (y.bP D b p) V;rw[j];by_cases hc:cf m 2=x.old
   ·simp[hc]
   ·simp[hc]
end
section
variable{w w0 w1 w2 w':World}{T T1 T2 T':dH}{h:Hm}{c:cx}{m m':bd}{o o' b sb lb k q xb wb ab:Nat}{es es':List TypeId}{su:lC}{x:CoV}{av gv:Value}
theorem extD_b{D:Nat->Prop}(b:∀k,¬D k->hp w' k=hp w k):ExtD D w w':=λa v c hv=>by
 have hb:w'.heap[a.block]? =w.heap[a.block]? :=b a.block c;unfold World.cell? at hv⊢;rw[hb];exact hv
theorem Gx.same{S:Nat->Prop}{e:TypeId}{vs:List Value}(R:Rel w T)(g:Gx S w T w' T')(hT:T k=some (.st o e (vs.map fF.v)))(a:¬S k):hp w' k=hp w k:=by
 rw[g.rel.kK (g.off k _ hT a),R.kK hT]
def coA(b:Nat)(x:CoV)(av gv:Value):Array Value:= #[ptr b,bN x.at',av,gv,.bool x.won,.bool x.done]
def coN(o b:Nat)(x:CoV)(av gv:Value):Nod:= .st o 246 ((coA b x av gv).toList.map fF.v)
structure CoF(w:World)(xb b:Nat)(x:CoV)(av gv:Value):Prop where
 s:an (hp w xb) (0+0)=some (ptr b)
 at':an (hp w xb) (0+1)=some (bN x.at')
 a:an (hp w xb) (0+2)=some av
 g:an (hp w xb) (0+3)=some gv
 won:an (hp w xb) (0+4)=some (.bool x.won)
 done:an (hp w xb) (0+5)=some (.bool x.done)
theorem co_f(R:Rel w T)(hT:T xb=some (coN o b x av gv)):CoF w xb b x av gv:=by
 have hb:hp w xb=some (.cells (coA b x av gv) 246):=R.kK hT;constructor<;>rw[hb]<;>rfl
def CoR(w:World)(T:dH)(o xb b:Nat)(h:Hm)(x:CoV):Prop:=∃ab z,T xb=some (coN o b x (ptr ab) (.pointer z))/\AdR T o ab h x.a/\(x.at'=2->x.done=false->∃c,z=some ⟨c,0,none⟩/\GiR w T o c h x.g)
def coT:List TypeId:= [258,262,268,282,293,246]
theorem c_Collect(R:Rel w T)(H:dG T h c m)(U:fN w T o b sb lb h c su):aa prog 144 [ptr b] w λv w'=>∃xb T',v=ptr xb/\Gx (λ_=>False) w T w' T'/\CoR w' T' o xb b h coNew:=by
 apply F144_ok;obtain⟨u0,_,_⟩:=pU R U;obtain⟨_,_,_,_,f⟩:=mR R H;have d:ai prog (Instr.build 268 #[(0,ptr h.eb)])=some (.agg (adA h.eb ⟨0,0,false,false⟩)):=bd_268_0;simp only[ptr]at d;simp only[F144,ptr,ae,ac,jb,fa_153_4,fW,qm,u0,f,d,ak,aq];have g:=Gx.pR (S:=λ_=>False) R o 268 (adA h.eb ⟨0,0,false,false⟩).toList;have a:ai prog (Instr.build 246 #[(0,ptr b),(2,ptr w.heap.size)])=some (.agg (coA b coNew (ptr w.heap.size) (.pointer none))):=bd_246_0_2;simp only[ptr]at a;simp only[a,aq,ac];have e:=Gx.pR (S:=λ_=>False) g.rel o 246 (coA b coNew (ptr w.heap.size) (.pointer none)).toList;exact⟨_,_,rfl,g.trans e,w.heap.size,none,ax,e.off w.heap.size (adN o h.eb ⟨0,0,false,false⟩) ax (λh=>h),λh=>by cases h⟩
structure CoOk(c:cx)(x:CoV):Prop where
 at':x.at'<=2
 a:x.at'=0->AdOk c x.a
 g:x.at'=2->s9 (bB c) x.g.p
theorem coOne(hT:T xb=some (coN o b x av gv))(g:Gx (λq=>q=xb) w T w' T'):Gx (SM h T o coT) w T w' T':=SO.toM (SO.one (es:= [246]) hT dC g) dC
theorem coUnU(U:fN w T o b sb lb h c su)(hT:T xb=some (coN o' b x av gv))(g:Gx (λq=>q=xb) w T w' T'):fN w' T' o b sb lb h c su:=
 U.gx g (ay U.n hT dC) (by obtain⟨_,a,_⟩:=U.s;exact ay a hT dC) (by obtain⟨_,a,_⟩:=U.l;exact ay a hT dC)
theorem c_CoStep(N:gG c)(R:Rel w T)(H:dG T h c m)(j:o≠0)(M:ee c m)(U:fN w T o b sb lb h c su)(O:qS su)(a6:(fI su (fE (cf m 2))).st.length<=100000)(A:CoR w T o xb b h x)(OX:CoOk c x):
  aa prog 152 [ptr xb] w λv w'=>v= .bool (!x.done)/\∃T',Gx (SM h T o coT) w T w' T'/\dG T' h c (fj c m su x).1/\fN w' T' o b sb lb h c (fj c m su x).2.1/\CoR w' T' o xb b h (fj c m su x).2.2:=by
 apply F152_ok (D:=λk=>k≠xb/\k≠b/\k≠h.wb);have A0:=A;obtain⟨ab,z,hT,E,hz⟩:=A;have F:=co_f R hT;cases hd:x.done with
 |true=>
  have Fd:=F.done;rw[hd]at Fd;simp only[F152,ptr,ae,ac,px,az,Fd,zS];rw[fj,bU hd];exact⟨by first|rfl|trivial,T,Gx.refl R,H,U,A0⟩
 |false=>
 have Fd:=F.done;rw[hd]at Fd;have fin:∀(L:World) (P:dH) (r:bd×lC×CoV),fj c m su x=r->Gx (SM h T o coT) w T L P->dG P h c r.1->fN L P o b sb lb h c r.2.1->CoR L P o xb b h r.2.2->P152_0 L (λv w'=>v= .bool true/\∃T',Gx (SM h T o coT) w T w' T'/\dG T' h c (fj c m su x).1/\fN w' T' o b sb lb h c (fj c m su x).2.1/\CoR w' T' o xb b h (fj c m su x).2.2):=by
  rintro L P r rfl h1 h2 h3 h4;apply L152_0_ok;exact⟨rfl,P,h1,h2,h3,h4⟩
 rw[F152];have A3:x.at'=0\/x.at'=1\/x.at'=2:=by have:=OX.at';omega
 rcases A3 with q0|q0|q0
 ·have Q:fj c m su x=((fy c m x.a).1,su,if(fy c m x.a).2.done then{x with a:=(fy c m x.a).2,won:=(fy c m x.a).2.won,at':=1}else{x with a:=(fy c m x.a).2}):=by rw[fj,bV (by rw[hd];decide),bU q0]
  have Fa:an (hp w xb) (0+1)=some (bN 0):=by have t:an (hp w xb) (0+1)=some (bN (x.at':Nat)):=F.at';rw[q0]at t;exact t
  simp only[ptr,ae,ac,zS,rD,fa_246_2,px,az,ag,ld_244,Fd,Fa,F.a];refine(c_AdStep N R H j M E (OX.a q0)).mono ?_;rintro _ w2 ⟨rfl,T2,l,H2,Y⟩;have d:=l.off xb _ hT (SM.un H hT j (.inr dC));have U2:=U.sm H l j (.inr dC);have a4:Gx (SM h T o coT) w T w2 T2:=l.mono λk hk=>hk.imp id fun⟨e,cs,p,q⟩=>⟨e,cs,p,(show∀e∈adT,e∈coT by decide) e q⟩
  generalize hr:fy c m x.a=r at*;obtain⟨m2,a2⟩:=r;simp only at Q Y H2;have F2:=co_f l.rel d;have G2:=ad_f l.rel Y;cases V:a2.done with
  |false=>
   have B:=G2.done;rw[V]at B;rw[bV (by rw[V];decide)]at Q;simp only[ptr,ae,ac,zS,nA,az,F2.a,B];exact fin w2 T2 _ Q a4 H2 U2 ⟨ab,z,d,Y,λh=>absurd (q0.symm.trans h) dC⟩
  |true=>
   have B:=G2.done;rw[V]at B;rw[bU V]at Q;simp only[ptr,ae,ac,zS,fa_246_4,fa_268_3,nA,az,F2.a,B,G2.won];refine aA (A':=coA b {x with a:=a2,won:=a2.won} (ptr ab) (.pointer z)) l.rel d m8 ⟨rfl,rfl⟩ rfl (by show 4<6;omega) λw3 T3 Z f _ _=>?_;try simp only[ptr,ae,ac,rD]
   refine aA (A':=coA b {x with a:=a2,won:=a2.won,at':=1} (ptr ab) (.pointer z)) Z.rel f aE ⟨rfl,rfl⟩ rfl (by show 1<6;omega) λw4 T4 g4 a1 _ _=>?_;have W:=Z.trans g4;exact fin w4 T4 _ Q (SM.then a4 (coOne d W) (λ_ h=>h)) (H2.bP W d j) (coUnU U2 d W) ⟨ab,z,a1,W.off ab _ Y (ay Y d dC),λh=>by cases h⟩
 ·have Q:fj c m su x=(m,(m0 (fI su (fE (cf m 2)))).2,{x with g:=ir (m0 (fI su (fE (cf m 2)))).1,at':=2,done:=decide ((m0 (fI su (fE (cf m 2)))).1.length=0)}):=by rw[fj,bV (by rw[hd];decide),bV dB,bU q0]
  have Fa:an (hp w xb) (0+1)=some (bN 1):=by have t:an (hp w xb) (0+1)=some (bN (x.at':Nat)):=F.at';rw[q0]at t;exact t
  obtain⟨u0,_,_⟩:=pU R U;obtain⟨k6,_⟩:=mR R H;have d1:((xb≠xb/\xb≠b/\xb≠h.wb))=False:=by simp
  have d2:((b≠xb/\b≠b/\b≠h.wb))=False:=by simp
  have d3:((h.wb≠xb/\h.wb≠b/\h.wb≠h.wb))=False:=by simp
  have xt:∀{w1 w2:World} {T1 T2:dH} {S:Nat->Prop},Rel w1 T1->Gx S w1 T1 w2 T2->(∃ vs:List Value,T1 xb=some (.st o 246 (vs.map fF.v)))->T1 b=some (.st o 215 ([ptr h.wb,ptr sb,ptr lb].map fF.v))->T1 h.wb=some (.st 0 153 ((homeL h c).map fF.v))->¬S xb->¬S b->¬S h.wb->ExtD (λk=>k≠xb/\k≠b/\k≠h.wb) w1 w2:=by
   rintro w1 w2 T1 T2 S R1 g ⟨vs,t1⟩ t2 t3 s1 s2 s3;refine extD_b λk hk=>?_;by_cases h1:k=xb
   ·rw[h1];exact Gx.same R1 g t1 s1
   ·by_cases h2:k=b
    ·rw[h2];exact Gx.same R1 g t2 s2
    ·by_cases h3:k=h.wb
     ·rw[h3];exact Gx.same R1 g t3 s3
     ·exact absurd ⟨h1,h2,h3⟩ hk
  have cd:=(ad.refl [] w).drew;have a7:∀{T1:dH} {m1:bd},dG T1 h c m1->¬h.wb=h.mb:=λH1=>by obtain⟨n,hn⟩:=H1.mT;exact ay H1.wT hn dC
  simp only[ptr,ae,ac,zS,fa_246_0,rD,px,jb,eZ,az,ag,jD,fW,bx,Fd,Fa,Int.reduceBEq,F.s,u0,k6,pS,d1,d2,d3,not_false_eq_true,true_and];refine(iR (a:=2) (R.aF cd) H M.two).mono ?_;rintro _ w1 ⟨rfl,_,T1,g1,H1⟩;refine⟨xt (R.aF cd) g1 ⟨_,hT⟩ U.n H.wT (H.s8 hT j) (H.s8 U.n j) (a7 H),?_⟩;have X:=g1.off xb _ hT (H.s8 hT j);have U1:=(U.aF cd).sm (o':=o) (es:= []) H (SM.mem g1) j (.inr dC);have E1:AdR T1 o ab h x.a:=g1.off ab _ E (H.s8 E j);have a8:Gx (SM h T o coT) w T w1 T1:=(Gx.bL R cd).trans (SM.mem g1);refine(c_Cut5 (iw M.u 2)).step ?_;refine⟨bG (ad.refl _ _),?_⟩;refine(c_SuReady g1.rel U1 O (cut_rng (iw M.u 2))).mono ?_;rintro _ w2 ⟨T2,l,U2⟩;refine⟨xt g1.rel l ⟨_,X⟩ U1.n H1.wT (SO.un X (.inr dC)) (SO.un U1.n (.inr dC)) (SO.un H1.wT (.inr dC)),?_⟩;have d:=l.off xb _ X (SO.un X (.inr dC));have Y:AdR T2 o ab h x.a:=l.off ab _ E1 (SO.un E1 (.inr dC));have H2:=H1.so l j;have F2:=co_f l.rel d;generalize b2:fI su (fE (cf m 2))=C at*;simp only[ptr,ac,F2.s];refine(c_SuAll l.rel H2 j U2 a6).mono ?_;rintro _ w3 ⟨I,T3,rfl,Z,U3,G3⟩;have f:=Z.off xb _ d (SO.un d (.inr dC));have E3:AdR T3 o ab h x.a:=Z.off ab _ Y (SO.un Y (.inr dC));have H3:=H2.so Z j;have a9:=SM.then (SM.then a8 (SO.toM (h:=h) (es':=coT) l dC) (λ_ h=>h)) (SO.toM (h:=h) (es':=coT) Z dC) (λ_ h=>h)
  try simp only[ptr,ac,fa_246_3]
  refine aA (A':=coA b {x with g:=ir (m0 C).1} (ptr ab) (ptr I)) Z.rel f sz_235 ⟨rfl,rfl⟩ rfl (by show 3<6;omega) λw4 T4 g4 a1 _ _=>?_;try simp only[ptr,ae,ac,rD]
  refine aA (A':=coA b {x with g:=ir (m0 C).1,at':=2} (ptr ab) (ptr I)) g4.rel a1 aE ⟨rfl,rfl⟩ rfl (by show 1<6;omega) λL P y i _ _=>?_;have a5:=g4.trans y;have F5:=co_f y.rel i;have G5:=G3.gx a5 (by obtain⟨q,v,J,_⟩:=G3;exact ay J f dC) (λq cs J=>ay J f dC);have d5:an (hp L I) (0+2)=some (.bool (ir (m0 C).1).done):=by obtain⟨q,v,hg,_⟩:=G5;rw[nd_l y.rel hg];rfl
  simp only[ptr,ae,ac,mG,ld_235,az,F5.g,d5];refine aA (A':=coA b {x with g:=ir (m0 C).1,at':=2,done:=(ir (m0 C).1).done} (ptr ab) (ptr I)) y.rel i m8 ⟨rfl,rfl⟩ rfl (by show 5<6;omega) λw6 T6 g6 a3 _ _=>?_;have K:=a5.trans g6;have G6:=G3.gx K (by obtain⟨q,v,J,_⟩:=G3;exact ay J f dC) (λq cs J=>ay J f dC);exact fin w6 T6 _ Q (SM.then a9 (coOne f K) (λ_ h=>h)) (H3.bP K f j) (coUnU U3 f K) ⟨ab,some ⟨I,0,none⟩,a3,K.off ab _ E3 (ay E3 f dC),λ_ _=>⟨I,rfl,G6⟩⟩
 ·have Q:fj c m su x=((cO c m x.g).1,su,{x with g:=(cO c m x.g).2,done:=(cO c m x.g).2.done}):=by rw[fj,bV (by rw[hd];decide),bV dB,bV dB]
  have Fa:an (hp w xb) (0+1)=some (bN 2):=by have t:an (hp w xb) (0+1)=some (bN (x.at':Nat)):=F.at';rw[q0]at t;exact t
  obtain⟨I,rfl,G⟩:=hz q0 hd;simp only[ptr,ae,ac,zS,rD,fa_246_3,px,az,ag,ld_235,Fd,Fa,Int.reduceBEq,F.g];refine(c_GiStep R H j (M.pool N) G (OX.g q0)).mono ?_;rintro _ L ⟨P,y,H5,G5⟩;have i:=y.off xb _ hT (SM.un H hT j (.inr dC));have E5:AdR P o ab h x.a:=y.off ab _ E (SM.un H E j (.inr dC));have b1:Gx (SM h T o coT) w T L P:=y.mono λk hk=>hk.imp id fun⟨e,cs,p,q⟩=>⟨e,cs,p,(show∀e∈ [282,293],e∈coT by decide) e q⟩
  have U5:=U.sm H y j (.inr dC);have F5:=co_f y.rel i;have d4:an (hp L I) (0+2)=some (.bool (cO c m x.g).2.done):=by obtain⟨q,v,hg,_⟩:=G5;rw[nd_l y.rel hg];rfl
  simp only[ae,ac,mG,az,F5.g,d4];refine aA (A':=coA b {x with g:=(cO c m x.g).2,done:=(cO c m x.g).2.done} (ptr ab) (ptr I)) y.rel i m8 ⟨rfl,rfl⟩ rfl (by show 5<6;omega) λw6 T6 g6 a3 _ _=>?_;have G6:=G5.gx g6 (by obtain⟨q,v,J,_⟩:=G5;exact ay J i dC) (λq cs J=>ay J i dC);exact fin w6 T6 _ Q (SM.then b1 (coOne i g6) (λ_ h=>h)) (H5.bP g6 i j) (coUnU U5 i g6) ⟨ab,some ⟨I,0,none⟩,a3,g6.off ab _ E5 (ay E5 i dC),λ_ _=>⟨I,rfl,G6⟩⟩
end
section
variable{w w0 w1 w2 w':World}{T T1 T2 T':dH}{h:Hm}{c:cx}{m m':bd}{o o' b sb lb k q xb wb ab:Nat}{es es':List TypeId}{x:EnV}{id:Nat}
def enA(a id:Nat)(x:EnV):Array Value:= #[ptr a,bN id,bN x.at',bN x.epoch,.bool x.done]
def enN(o a id:Nat)(x:EnV):Nod:= .st o 220 ((enA a id x).toList.map fF.v)
def EnR(T:dH)(o xb:Nat)(h:Hm)(id:Nat)(x:EnV):Prop:=T xb=some (enN o h.eb id x)
theorem en_f{a:Nat}(R:Rel w T)(hT:T xb=some (enN o a id x)):an (hp w xb) (0+0)=some (ptr a)/\an (hp w xb) (0+1)=some (bN id)/\an (hp w xb) (0+2)=some (bN x.at')/\an (hp w xb) (0+3)=some (bN x.epoch)/\an (hp w xb) (0+4)=some (.bool x.done):=by
 have hb:hp w xb=some (.cells (enA a id x) 220):=R.kK hT;rw[hb];exact⟨rfl,rfl,rfl,rfl,rfl⟩
def enT:List TypeId:= [220]
def mg(c:cx)(id:Nat)(m:bd)(x:EnV):bd×EnV:=if x.at'=0 then(m,⟨1,fE (cf m 2),false⟩)else(m.set (fH c id) (pinW x.epoch),{x with done:=true})
theorem c_EnStep(N:gG c)(R:Rel w T)(H:dG T h c m)(l:o≠0)(M:ee c m)(A:EnR T o xb h id x)(p:id<cW c)(F:x.done=false):
  aa prog 147 [ptr xb] w λv w'=>v= .bool true/\∃T',Gx (SM h T o enT) w T w' T'/\dG T' h c (mg c id m x).1/\EnR T' o xb h id (mg c id m x).2:=by
 apply F147_ok;have hT:T xb=some (enN o h.eb id x):=A;have one:∀{w w':World} {T T':dH} {x:EnV},T xb=some (enN o h.eb id x)->Gx (λq=>q=xb) w T w' T'->Gx (SM h T o enT) w T w' T':=λhT g=>SO.toM (SO.one (es:= [220]) hT dC g) dC;obtain⟨f0,f1,r,G,s⟩:=en_f R hT;rw[F]at s;have Q:=N.b1;obtain⟨i,t,y,I⟩:=ep_f R H;have n:=(ad.refl [] w).drew;rw[F147];by_cases z:x.at'=0
 ·have B:mg c id m x=(m,⟨1,fE (cf m 2),false⟩):=by rw[mg,bU z]
  have J:an (hp w xb) (0+2)=some (bN 0):=by rw[z]at r;exact r
  simp only[ptr,ae,ac,zS,fa_220_0,fa_220_2,rA,pj,fa_158_1,az,ag,qm,bx,s,f0,J,i,t];refine(iR (a:=2) (R.aF n) H M.two).mono ?_;rintro _ w1 ⟨rfl,_,T1,d,C⟩;have b:=d.off xb _ hT (H.s8 hT l);have e:Gx (SM h T o enT) w T w1 T1:=(Gx.bL R n).trans (SM.mem d);refine(c_Cut5 (iw M.u 2)).step ?_;try simp only[ac,fa_220_3]
  refine aA (A':=enA h.eb id {x with epoch:=fE (cf m 2)}) d.rel b aE ⟨rfl,rfl⟩ rfl (by show 3<5;omega) λw2 T2 j f _ _=>?_;try simp only[ae,ac,fa_220_2]
  refine aA (A':=enA h.eb id {x with epoch:=fE (cf m 2),at':=1}) j.rel f aE ⟨rfl,rfl⟩ rfl (by show 2<5;omega) λS K L D _ _=>?_;have k:=j.trans L;rw[B];refine⟨by first|rfl|trivial,K,SM.then e (one b k) (λ_ h=>h),C.bP k b l,?_⟩;rw[EnR,D,F];rfl
 ·have B:mg c id m x=(m.set (fH c id) (pinW x.epoch),{x with done:=true}):=by rw[mg,bV z]
  have O:((x.at':Int)==0)=false:=cH dB;simp only[ptr,ae,ac,zS,fa_220_2,fa_220_3,rA,az,ag,s,r,G,O];refine(c_PutPin x.epoch).mono ?_;rintro _ w0 ⟨U,rfl,E⟩;rw[E];have P:IntKind.i64.wrap ((fH c 0:Int)+(id:Int))=((fH c id:Nat):Int):=by rw[ap (by unfold fH;omega) (by unfold fH;omega)];unfold fH;omega
  simp only[kG,kH,ptr,ae,ac,zS,fa_220_0,fa_220_1,pj,fa_158_2,ag,qm,bx,f0,f1,i,y,aj,P];refine(oM (a:=fH c id) (R.aF n) H (M.pin p) _).mono ?_;rintro _ w1 ⟨_,T1,d,C⟩;have b:=d.off xb _ hT (H.s8 hT l);have e:Gx (SM h T o enT) w T w1 T1:=(Gx.bL R n).trans (SM.mem d);try simp only[ae,ac,rA]
  refine aA (A':=enA h.eb id {x with done:=true}) d.rel b m8 ⟨rfl,rfl⟩ rfl (by show 4<5;omega) λw2 T2 j f _ _=>?_;rw[B];exact⟨by first|rfl|trivial,T2,SM.then e (one b j) (λ_ h=>h),C.bP j b l,f⟩
def lvA(a id:Nat)(d:Bool):Array Value:= #[ptr a,bN id,.bool d]
def lvN(o a id:Nat)(d:Bool):Nod:= .st o 224 ((lvA a id d).toList.map fF.v)
def LvR(T:dH)(o xb:Nat)(h:Hm)(id:Nat)(d:Bool):Prop:=T xb=some (lvN o h.eb id d)
def lvT:List TypeId:= [224]
theorem c_LvStep(N:gG c)(R:Rel w T)(H:dG T h c m)(l:o≠0)(M:ee c m)(A:LvR T o xb h id false)(d:id<cW c):
  aa prog 148 [ptr xb] w λv w'=>v= .bool true/\∃T',Gx (SM h T o lvT) w T w' T'/\dG T' h c (m.set (fH c id) 0)/\LvR T' o xb h id true:=by
 apply F148_ok;have hT:T xb=some (lvN o h.eb id false):=A;have one:∀{w w':World} {T T':dH},T xb=some (lvN o h.eb id false)->Gx (λq=>q=xb) w T w' T'->Gx (SM h T o lvT) w T w' T':=λhT g=>SO.toM (SO.one (es:= [224]) hT dC g) dC;have hb:hp w xb=some (.cells (lvA h.eb id false) 224):=R.kK hT;have f0:an (hp w xb) (0+0)=some (ptr h.eb):=by rw[hb];rfl
 have f1:an (hp w xb) (0+1)=some (bN id):=by rw[hb];rfl
 have r:an (hp w xb) (0+2)=some (.bool false):=by rw[hb];rfl
 have y:=N.b1;obtain⟨e,s,f,t⟩:=ep_f R H;have n:=(ad.refl [] w).drew;have u:IntKind.i64.wrap ((fH c 0:Int)+(id:Int))=((fH c id:Nat):Int):=by rw[ap (by unfold fH;omega) (by unfold fH;omega)];unfold fH;omega
 rw[F148];simp only[ptr,ae,ac,zS,fa_224_0,fa_224_1,fa_224_2,pj,fa_158_2,az,ag,qm,bx,f0,f1,r,e,f,aj,u];refine(oM (a:=fH c id) (R.aF n) H (M.pin d) _).mono ?_;rintro _ w1 ⟨_,T1,i,x⟩;have b:=i.off xb _ hT (H.s8 hT l);have j:Gx (SM h T o lvT) w T w1 T1:=(Gx.bL R n).trans (SM.mem i);try simp only[ae,ac,fa_224_2]
 refine aA (A':=lvA h.eb id true) i.rel b m8 ⟨rfl,rfl⟩ rfl (by show 2<3;omega) λw2 T2 p k _ _=>?_;exact⟨by first|rfl|trivial,T2,SM.then j (one b p) (λ_ h=>h),x.bP p b l,k⟩
def od(r:jI):Array Value:= #[bN r.1,bN r.2.1.1,bN r.2.1.2.1,bN r.2.1.2.2.1,bN r.2.1.2.2.2.1,bN r.2.1.2.2.2.2,bN r.2.2.1,bR r.2.2.2]
theorem ld_rs{e:TypeId}{r:jI}(hb:hp w q=some (.cells (od r) e)):gi prog 35 (bS q) w=some (.agg (od r)):=aR (t:=35) (c:=od r) ag_35 (show(Tryz.prog.info? 35).map (·.size)=some (od r).size from sz_35) hb
theorem st_rs{e:TypeId}{r r0:jI}{L:World->Prop}(hb:hp w q=some (.cells (od r0) e)):ck prog (Instr.storeAt 35 (bS q) (.agg (od r))) w L=L (put w q (od r) e):=by
 rw[st_35 rfl rfl (by rw[hb,bq];exact cr (by show 8<=8;omega)) (by rw[hb];rfl),hb];rfl
theorem c_Touch(N:gG c)(R:Rel w T)(H:dG T h c m)(M:ee c m){kc i:Nat}(K:kc<cC c)(L:i<cK c)(kind v e:Int):
  aa prog 153 [ptr h.wb,bN kind,bN kc,bN i,bR v,bR e] w λu w'=>u= .agg (od (ie m (aWd c kc i) kind v e).2)/\∃T',Gx (λk=>k=h.mb) w T w' T'/\dG T' h c (ie m (aWd c kc i) kind v e).1:=by
 apply F153_ok;rw[F153];dsimp only;rw[al_35];generalize C:World.alloc _ _=w1;have O:ad [] w w1:=by rw[<- C];exact(ad.refl _ _).alloc _
 have P:hp w1 w.heap.size=some (.cells (od lR) 35):=by rw[<- C,af,bU rfl];rfl
 have Q:T w.heap.size=none:=R.fresh (cy _);clear C;obtain⟨q,V⟩:∃q,q=w.heap.size:=⟨_,rfl⟩
 rw[<- V]at P Q⊢;have D:w.heap.size<=q:=dB;have S:=R.aF O;simp only[ptr,ae,ac,zS,bJ,mQ S H];refine(c_Word N K L).mono ?_;rintro _ w2 ⟨rfl,E⟩;have o:=S.aF E;have W:=E.at P (by simp);have F:=O.trans E;obtain⟨y,_⟩:=mR o H;have z:=M.wd K L;generalize aWd c kc i=a at*;have fin:∀(g:World) (f:dH) (r:jI),Gx (λk=>k=h.mb) w2 T g f->dG f h c (ie m a kind v e).1->(ie m a kind v e).2=r->
   ck prog (Instr.storeAt 35 (bS q) (.agg (od r))) g λU=>mV (gi prog 35 (bS q) U) λG=>G= .agg (od (ie m a kind v e).2)/\∃T',Gx (λk=>k=h.mb) w T U T'/\dG T' h c (ie m a kind v e).1:=by
  rintro g f r j H3 rfl;have I:=j.loc W Q;rw[st_rs I.1,ld_rs (ar (nZ I.1) _ _),ac];exact⟨rfl,f,Gx.putL ((Gx.bL R F).trans j) D I.2,H3⟩
 by_cases n:kind=6
 ·have b:ie m a kind v e=(m,(0,kJ,0,cf m a)):=by rw[ie,bU n]
  have p:(kind==6)=true:=by rw[n];rfl
  simp only[ptr,ac,zS,p,eZ,bx,y];refine(iR o H z).mono ?_;rintro _ g ⟨rfl,_,f,j,H3⟩;have d:ai prog (Instr.build 35 #[(3,bR (cf m a))])=some (.agg (od (0,kJ,0,cf m a))):=bd_35_3;simp only[d,ac];exact fin g f _ j (by rw[b];exact H3) (by rw[b])
 ·have l:(kind==6)=false:=cH n;by_cases s:kind=7
  ·have b:ie m a kind v e=(m.set a v,lR):=by rw[ie,bV n,bU s]
   have p:(kind==7)=true:=by rw[s];rfl
   simp only[ptr,ac,zS,l,p,eZ,bx,y];refine(oM o H z v).mono ?_;rintro _ g ⟨_,f,j,H3⟩;have d:ai prog (Instr.build 35 #[])=some (.agg (od lR)):=bd_35_;simp only[d,ac];exact fin g f _ j (by rw[b];exact H3) (by rw[b])
  ·have t:(kind==7)=false:=cH s;by_cases A:kind=8
   ·have b:ie m a kind v e=(m.set a (IntKind.u64.wrap (cf m a+v)),(0,kJ,0,cf m a)):=by rw[ie,bV n,bV s,bU A]
    have p:(kind==8)=true:=by rw[A];rfl
    simp only[ptr,ac,zS,l,t,p,eZ,bx,y];refine(c_Add o H z v).mono ?_;rintro _ g ⟨rfl,_,f,j,H3⟩;have d:ai prog (Instr.build 35 #[(3,bR (cf m a))])=some (.agg (od (0,kJ,0,cf m a))):=bd_35_3;simp only[d,ac];exact fin g f _ j (by rw[b];exact H3) (by rw[b])
   ·have b:ie m a kind v e=(if cf m a=v then(m.set a e,(0,kJ,1,0))else(m,lR)):=by rw[ie,bV n,bV s,bV A]
    have J:(kind==8)=false:=cH A;simp only[ptr,ac,zS,l,t,J,eZ,bx,y];refine(c_Cas o H z v e).mono ?_;rintro _ g ⟨rfl,_,f,j,H3⟩;have d:ai prog (Instr.build 35 #[])=some (.agg (od lR)):=bd_35_;have x:ai prog (Instr.build 35 #[(2,bN 1)])=some (.agg (od (0,kJ,1,0))):=bd_35_2;by_cases B:cf m a=v
    ·rw[bU B]at b H3;simp only[zS,B,x];exact fin g f _ j (by rw[b];exact H3) (by rw[b])
    ·rw[bV B]at b H3;simp only[zS,B,d];exact fin g f _ j (by rw[b];exact H3) (by rw[b])
end
section
variable{w w0 w1 w2 w':World}{T T1 T2 T':dH}{h:Hm}{c:cx}{m m':bd}{o o' b sb lb q kb wb:Nat}{es es':List TypeId}{k:jE}{id:Nat}{hv:Value}{p1 p2 p3 p4 p5 p6 p7:Option Addr}
def keyC(x:iH):List Value:= [bN x.1,bN x.2]
def lG(l:List iH):List Value:=l.flatMap keyC
def SlK(w:World)(T:dH)(v:Value)(l:List iH):Prop:=∃A n,v= .slice A l.length n/\l.length<=n/\Lo w T A (lG l)
def mJ(wb id b:Nat)(k:jE)(hv:Value)(p1 p2 p3 p4 p5 p6 p7:Option Addr):Array Value:= #[ptr wb,bN id,ptr b,bN k.depth,hv,.bool k.busy,
 bN k.o.1,bN k.o.2.1,bN k.o.2.2.1,bN k.o.2.2.2.1,bR k.o.2.2.2.2.1,bR k.o.2.2.2.2.2,
 bN k.h.1,bN k.h.2.1,bN k.h.2.2.1,bN k.h.2.2.2.1,bN k.h.2.2.2.2,bN k.steps,bN k.point,bN k.back,
 bN k.last.1,bN k.last.2.1.1,bN k.last.2.1.2.1,bN k.last.2.1.2.2.1,bN k.last.2.1.2.2.2.1,bN k.last.2.1.2.2.2.2,bN k.last.2.2.1,bR k.last.2.2.2,
 .pointer p1,.pointer p2,.pointer p3,.pointer p4,.pointer p5,.pointer p6,.pointer p7]
def tU(o wb id b:Nat)(k:jE)(hv:Value)(p1 p2 p3 p4 p5 p6 p7:Option Addr):Nod:= .st o 172 ((mJ wb id b k hv p1 p2 p3 p4 p5 p6 p7).toList.map fF.v)
theorem aM{b:Nat}:(mJ wb id b k hv p1 p2 p3 p4 p5 p6 p7).size=35:=dE
theorem c_ends(R:Rel w T)(hT:T kb=some (tU o wb id b k hv p1 p2 p3 p4 p5 p6 p7))(r:jI):aa prog 137 [ptr kb,.agg (od r)] w λv w'=>v= .tuple #[]/\∃T',Gx (λq=>q=kb) w T w' T'/\T' kb=some (tU o wb id b {k with busy:=false,last:=r} hv p1 p2 p3 p4 p5 p6 p7):=by
 apply F137_ok;have g:ad [] w (w.alloc (.cells (od r) 35)):=(ad.refl _ _).alloc _;have l:hp (w.alloc (.cells (od r) 35)) w.heap.size=some (.cells (od r) 35):=by rw[af,bU rfl]
 simp only[F137,ak,aq];have m:T w.heap.size=none:=R.fresh (cy _);obtain⟨q,p⟩:∃q,q=w.heap.size:=⟨_,rfl⟩
 rw[<- p]at l m⊢;generalize w.alloc (.cells (od r) 35)=w1 at*;have f:=(ad.refl [] w1).drew;have n:=(R.aF g).aF f;have e:=f.at l (by simp);refine⟨?_,?_⟩
 ·simp only[ptr,ae,ac,aV,ld_rs (w:=w1.drew) e];refine aA (A':=mJ wb id b {k with busy:=false} hv p1 p2 p3 p4 p5 p6 p7) n hT m8 ⟨rfl,rfl⟩ dE (by rw[aM];omega) λw2 T2 d a _ _=>?_;try simp only[ac,fa_172_10]
  refine nd_ws (A':=mJ wb id b {k with busy:=false,last:=r} hv p1 p2 p3 p4 p5 p6 p7) d.rel a sz_35 ⟨rfl,rfl,dC⟩ dE (by rw[aM];omega) λs i j c _ _=>?_;exact⟨by first|rfl|trivial,i,(Gx.bL R (g.trans f)).trans (d.trans j),c⟩
 ·simp only[ptr,ae,ac,aV];refine aA (A':=mJ wb id b {k with busy:=false} hv p1 p2 p3 p4 p5 p6 p7) n hT m8 ⟨rfl,rfl⟩ dE (by rw[aM];omega) λw2 T2 d a _ _=>?_;have t:=(d.loc e m).1;simp only[ac,fa_172_10,ld_rs t];refine nd_ws (A':=mJ wb id b {k with busy:=false,last:=r} hv p1 p2 p3 p4 p5 p6 p7) d.rel a sz_35 ⟨rfl,rfl,dC⟩ dE (by rw[aM];omega) λs i j c _ _=>?_;exact⟨by first|rfl|trivial,i,(Gx.bL R (g.trans f)).trans (d.trans j),c⟩
end
section
variable{w w0 w1 w2 w':World}{T T1 T2 T':dH}{h:Hm}{c:cx}{m m':bd}{o o' b sb lb q kb wb:Nat}{es es':List TypeId}{k:jE}{id:Nat}{hv:Value}{p1 p2 p3 p4 p5 p6 p7:Option Addr}
def tV(kb:Nat):Value:= .pointer (some ⟨kb,0+3,none⟩)
theorem wk_d(R:Rel w T)(hT:T kb=some (tU o wb id b k hv p1 p2 p3 p4 p5 p6 p7)):an (hp w kb) (0+3+0)=some (bN k.depth)/\an (hp w kb) (0+3+1)=some hv:=by
 have hb:hp w kb=some (.cells (mJ wb id b k hv p1 p2 p3 p4 p5 p6 p7) 172):=R.kK hT;rw[hb];exact⟨rfl,rfl⟩
theorem c_gPin(R:Rel w T)(hT:T kb=some (tU o wb id b k hv p1 p2 p3 p4 p5 p6 p7))(g:0<=k.depth/\k.depth<=15):aa prog 140 [tV kb] w λv w'=>∃u,v= .tuple #[.bool u,bN (jV k).1]/\∃T',Gx (λq=>q=kb) w T w' T'/\T' kb=some (tU o wb id b (jV k).2 hv p1 p2 p3 p4 p5 p6 p7):=by
 apply F140_ok;obtain⟨f0,f1⟩:=wk_d R hT;by_cases a:k.depth=15
 ·have q:(k.depth==15)=true:=by rw[a];rfl
  simp only[F140,tV,ae,ac,zS,gM,ag,f0,q];rw[jV,bU a];exact⟨_,rfl,T,Gx.refl R,hT⟩
 ·have q:(k.depth==15)=false:=cH a;have e:IntKind.i64.wrap (k.depth+1)=k.depth+1:=ap dB dB;simp only[F140,tV,ae,ac,zS,gM,ag,f0,q,aj,e];refine aA (A':=mJ wb id b {k with depth:=k.depth+1} hv p1 p2 p3 p4 p5 p6 p7) R hT aE ⟨rfl,rfl⟩ dE (by rw[aM];omega) λw2 T2 d c _ _=>?_;have f:an (hp w2 kb) (0+3+0)=some (bN (k.depth+1)):=(wk_d d.rel c).1;simp only[ac,zS,f];rw[jV,bV a];exact⟨_,rfl,T2,d,c⟩
theorem c_gUnpin(R:Rel w T)(hT:T kb=some (tU o wb id b k hv p1 p2 p3 p4 p5 p6 p7))(r:0<=k.depth/\k.depth<=15):aa prog 141 [tV kb] w λv w'=>∃u,v= .tuple #[.bool u,bN (dJ k).1]/\∃T',Gx (λq=>q=kb) w T w' T'/\T' kb=some (tU o wb id b (dJ k).2 (if k.depth=1 then .slice none 0 0 else hv) p1 p2 p3 p4 p5 p6 p7):=by
 apply F141_ok;obtain⟨f0,f1⟩:=wk_d R hT;by_cases c:k.depth=0
 ·have q:(k.depth==0)=true:=by rw[c];rfl
  simp only[F141,tV,ae,ac,zS,gM,ag,f0,q];rw[dJ,bU c,bV dB];exact⟨_,rfl,T,Gx.refl R,hT⟩
 ·have q:(k.depth==0)=false:=cH c;have l:IntKind.i64.wrap (k.depth-1)=k.depth-1:=ap dB dB;simp only[F141,tV,ae,ac,zS,gM,ag,f0,q,aH,l];refine aA (A':=mJ wb id b {k with depth:=k.depth-1} hv p1 p2 p3 p4 p5 p6 p7) R hT aE ⟨rfl,rfl⟩ dE (by rw[aM];omega) λw2 T2 e a _ _=>?_;have f:an (hp w2 kb) (0+3+0)=some (bN (k.depth-1)):=(wk_d e.rel a).1;by_cases g:k.depth=1
  ·have i:(k.depth-1==0)=true:=by rw[g];rfl
   simp only[ac,zS,jL,f,i];refine aA (A':=mJ wb id b {k with depth:=k.depth-1,holds:= []} (.slice none 0 0) p1 p2 p3 p4 p5 p6 p7) e.rel a sz_161 ⟨rfl,rfl⟩ dE (by rw[aM];omega) λm n j d _ _=>?_;apply L141_0_ok;have p:an (hp m kb) (0+3+0)=some (bN (k.depth-1)):=(wk_d j.rel d).1;simp only[L141_0,ae,ac,zS,gM,ag,p];rw[dJ,bV c,bU dB,bU g];exact⟨_,rfl,n,e.trans j,d⟩
  ·have i:(k.depth-1==0)=false:=cH dB;simp only[ac,zS,f,i];apply L141_0_ok;simp only[L141_0,ae,ac,zS,gM,ag,f];rw[dJ,bV c,bV dB,bV g];exact⟨_,rfl,T2,e,a⟩
theorem keyC_len:∀x,(keyC x).length=2:=λ_=>rfl
theorem key_at{A:Option Addr}{l:List iH}{n i:Nat}(L:fp w A (lG l))(g:i<l.length):∃q f,ai prog (Instr.indexAt 161 (.slice A l.length n) (bN i))=some (.pointer (some ⟨q,f,none⟩))/\an (hp w q) (f+0)=some (bN l[i].1)/\an (hp w q) (f+1)=some (bN l[i].2):=by
 obtain⟨q,f,k,a,p,_⟩:=L.elem (P:=prog) (c:=n) (n:=l.length) (i:=(i:Int)) (j:= .i64) Tryz.underlying161 sz_256 dB (by rw[lG,gL keyC_len];exact cy _) dB dB;have e:((lG l).drop (i*2)).take 2=keyC l[i]:=jX keyC_len l i g;have m:(lG l)[i*2+0]? =some (bN l[i].1):=by
  have:(((lG l).drop (i*2)).take 2)[0]? =some (bN l[i].1):=by rw[e];rfl
  rw[List.getElem?_take_of_lt dB,List.getElem?_drop]at this;exact this
 have o:(lG l)[i*2+1]? =some (bN l[i].2):=by
  have:(((lG l).drop (i*2)).take 2)[1]? =some (bN l[i].2):=by rw[e];rfl
  rw[List.getElem?_take_of_lt dB,List.getElem?_drop]at this;exact this
 have b:=a 0 dB;have d:=a 1 dB;rw[cj]at b d;exact⟨q,f,k,b.trans m,d.trans o⟩
theorem l_holds{l:List iH}{A:Option Addr}{n:Nat}(L:fp w A (lG l))(y:l.length<=100)(f1:an (hp w kb) (0+3+1)=some (.slice A l.length n))(slot gen:Int):∀(d i:Nat),i+d=l.length->
  P142_0 (tV kb) (bN slot) (bN gen) (bN i) w λv w'=>v= .bool (decide ((slot,gen)∈l.drop i))/\w'=w
 |0,i,h=>by
  apply L142_0_ok;have b:¬((i:Int)<(l.length:Int)):=dB;simp only[L142_0,tV,ae,ac,zS,jL,kW,f1,jt,b];rw[List.drop_eq_nil_of_le dB];exact⟨by first|rfl|simp,by first|rfl|trivial⟩
 |d+1,i,h=>by
  apply L142_0_ok;have s:i<l.length:=dB;have b:(i:Int)<(l.length:Int):=dB;obtain⟨q,f,k,m,k1⟩:=key_at (n:=n) L s;have t:=l_holds L y f1 slot gen d (i+1) dB;have u:IntKind.i64.wrap ((i:Int)+1)=((i+1:Nat):Int):=by rw[ap dB dB];omega
  rw[List.drop_eq_getElem_cons s];have c:∀x:iH,(slot,gen)∈x::l.drop (i+1)<->((x.1=slot/\x.2=gen)\/(slot,gen)∈l.drop (i+1)):=λx=>by
   rw[cV];constructor
   ·rintro(h|h)
    ·left;rw[<- h];exact⟨rfl,rfl⟩
    ·exact .inr h
   ·rintro(h|h)
    ·left;rw[<- h.1,<-h.2]
    ·exact .inr h
  by_cases e:l[i].1=slot
  ·have g:(l[i].1==slot)=true:=by rw[e];exact beq_self_eq_true _
   by_cases j:l[i].2=gen
   ·have o:(l[i].2==gen)=true:=by rw[j];exact beq_self_eq_true _
    simp only[L142_0,tV,ae,ac,zS,jL,fa_256_0,fa_256_1,kW,ag,f1,jt,b,k,m,k1,g,o];rw[cr ((c _).2 (.inl ⟨e,j⟩))];exact⟨by first|rfl|trivial,by first|rfl|trivial⟩
   ·have o:(l[i].2==gen)=false:=cH j;simp only[L142_0,tV,ae,ac,zS,jL,fa_256_0,fa_256_1,kW,ag,f1,jt,b,k,m,k1,g,o,aj,u];refine Part.mono t λv w' ⟨p,r⟩=>⟨?_,r⟩
    rw[p];congr 1;exact decide_eq_decide.2 ⟨λa=>(c _).2 (.inr a),λa=>((c _).1 a).resolve_left λa=>j a.2⟩
  ·have g:(l[i].1==slot)=false:=cH e;simp only[L142_0,tV,ae,ac,zS,jL,fa_256_0,kW,ag,f1,jt,b,k,m,g,aj,u];refine Part.mono t λv w' ⟨p,r⟩=>⟨?_,r⟩
   rw[p];congr 1;exact decide_eq_decide.2 ⟨λa=>(c _).2 (.inr a),λa=>((c _).1 a).resolve_left λa=>e a.1⟩
theorem c_gHolds(R:Rel w T)(hT:T kb=some (tU o wb id b k hv p1 p2 p3 p4 p5 p6 p7))(K:SlK w T hv k.holds)(a:k.holds.length<=100)(slot gen:Int):aa prog 142 [tV kb,bN slot,bN gen] w λv w'=>v= .bool (oX k slot gen)/\w'=w:=by
 apply F142_ok;obtain⟨A,n,rfl,_,L⟩:=K;have:=l_holds (kb:=kb) L.rd a (wk_d R hT).2 slot gen k.holds.length 0 dB;rw[List.drop_zero]at this;exact this
end
section
variable{w w0 w1 w2 w':World}{T T1 T2 T':dH}{h:Hm}{c:cx}{m m':bd}{k:jE}
theorem c_in(a b c:Int):aa prog 211 [bN a,bN b,bN c] w λv w'=>v= .bool (decide (b<=a/\a<=c))/\w'=w:=by
 apply F211_ok;by_cases d:b<=a
 ·simp only[F211,zS,d];exact⟨by first|rfl|simp,by first|rfl|trivial⟩
 ·simp only[F211,zS,d];exact⟨by first|rfl|simp,by first|rfl|trivial⟩
def tp(x:eN):Array Value:= #[bN x.1,bN x.2.1,bN x.2.2.1,bN x.2.2.2.1,bN x.2.2.2.2]
theorem c_Region(N:gG c)(x:eN):aa prog 172 [.agg (dN c).toArray,.agg (tp x)] w λv w'=>v= .bool (iG c x)/\ad [] w w':=by
 apply F172_ok;simp only[F172,ak,aq];generalize a:w.alloc (.cells (dN c).toArray 25)=w1;have s:ad [] w w1:=by rw[<- a];exact(ad.refl _ _).alloc _
 have t:hp w1 w.heap.size=some (.cells (dN c).toArray 25):=by rw[<- a,af,bU rfl]
 have C:w1.heap.size=w.heap.size+1:=by rw[<- a];exact ah _ _
 clear a;generalize e:w1.alloc (.cells (tp x) 32)=w2;have n:ad [] w1 w2:=by rw[<- e];exact(ad.refl _ _).alloc _
 have g:hp w2 w1.heap.size=some (.cells (tp x) 32):=by rw[<- e,af,bU rfl]
 have l:=n.at t (by simp);clear e;have u:an (hp w2 w.heap.size) (0+3)=some (bN c.2.2.2.1):=by rw[l];rfl
 have y:an (hp w2 w1.heap.size) (0+0)=some (bN x.1):=by rw[g];rfl
 have z:an (hp w2 w1.heap.size) (0+1)=some (bN x.2.1):=by rw[g];rfl
 have m:an (hp w2 w1.heap.size) (0+2)=some (bN x.2.2.1):=by rw[g];rfl
 have o:an (hp w2 w1.heap.size) (0+3)=some (bN x.2.2.2.1):=by rw[g];rfl
 have A:an (hp w2 w1.heap.size) (0+4)=some (bN x.2.2.2.2):=by rw[g];rfl
 have D:=N.n4;have E:=N.b4;have B:IntKind.i64.wrap (c.2.2.2.1-1)=c.2.2.2.1-1:=ap dB dB;simp only[ac,bu,gj,ag,u,y,aH,B];refine(c_in _ _ _).step ?_;have i:=s.trans n;by_cases p:0<=x.1/\x.1<=c.2.2.2.1-1
 ·have d:decide (0<=x.1/\x.1<=c.2.2.2.1-1)=true:=cr p;simp only[d,zS,gm,ag,z];refine(c_in _ _ _).step ?_;by_cases q:1<=x.2.1/\x.2.1<=4294967295
  ·have b:decide (1<=x.2.1/\x.2.1<=4294967295)=true:=cr q;by_cases f:x.2.2.1=0
   ·have k:(x.2.2.1==0)=true:=by rw[f];rfl
    by_cases j:x.2.2.2.1=0
    ·have q4:(x.2.2.2.1==0)=true:=by rw[j];rfl
     simp only[b,zS,eX,hC,iz,ag,m,o,A,k,q4];refine⟨?_,i⟩;rw[iG,d,b];by_cases r:x.2.2.2.2=0
     ·simp[f,j,r]
     ·simp[f,j,r]
    ·have q4:(x.2.2.2.1==0)=false:=cH j;simp only[b,zS,eX,hC,ag,m,o,k,q4];exact⟨by rw[iG,d,b];simp[f,j],i⟩
   ·have k:(x.2.2.1==0)=false:=cH f;simp only[b,zS,eX,ag,m,k];exact⟨by rw[iG,d,b];simp[f],i⟩
  ·have b:decide (1<=x.2.1/\x.2.1<=4294967295)=false:=bZ q;simp only[b,zS];exact⟨by rw[iG,d,b];rfl,i⟩
 ·have d:decide (0<=x.1/\x.1<=c.2.2.2.1-1)=false:=bZ p;simp only[d,zS];exact⟨by rw[iG,d];rfl,i⟩
theorem c_Object(N:gG c)(x:eN):aa prog 173 [.agg (dN c).toArray,.agg (tp x)] w λv w'=>v= .bool (kf c x)/\ad [] w w':=by
 apply F173_ok;simp only[F173,ak,aq];generalize b:w.alloc (.cells (dN c).toArray 25)=w1;have u:ad [] w w1:=by rw[<- b];exact(ad.refl _ _).alloc _
 have y:hp w1 w.heap.size=some (.cells (dN c).toArray 25):=by rw[<- b,af,bU rfl]
 clear b;generalize d:w1.alloc (.cells (tp x) 32)=w2;have n:ad [] w1 w2:=by rw[<- d];exact(ad.refl _ _).alloc _
 have i:hp w2 w1.heap.size=some (.cells (tp x) 32):=by rw[<- d,af,bU rfl]
 have e:=n.at y (by simp);clear d;have f1:an (hp w2 w.heap.size) (0+1)=some (bN c.2.1):=by rw[e];rfl
 have o:an (hp w2 w.heap.size) (0+2)=some (bN c.2.2.1):=by rw[e];rfl
 have z:an (hp w2 w.heap.size) (0+3)=some (bN c.2.2.2.1):=by rw[e];rfl
 have A:an (hp w2 w1.heap.size) (0+0)=some (bN x.1):=by rw[i];rfl
 have B:an (hp w2 w1.heap.size) (0+1)=some (bN x.2.1):=by rw[i];rfl
 have C:an (hp w2 w1.heap.size) (0+2)=some (bN x.2.2.1):=by rw[i];rfl
 have D:an (hp w2 w1.heap.size) (0+3)=some (bN x.2.2.2.1):=by rw[i];rfl
 have p:an (hp w2 w1.heap.size) (0+4)=some (bN x.2.2.2.2):=by rw[i];rfl
 have H:=N.n4;have I:=N.b4;have J:=N.n2;have K:=N.n3;have E:=N.b2;have F:=N.b3;have G:IntKind.i64.wrap (c.2.2.2.1-1)=c.2.2.2.1-1:=ap dB dB;have l:IntKind.i64.wrap (c.2.1-1)=c.2.1-1:=ap dB dB;simp only[ac,bu,gj,ag,z,A,aH,G];refine(c_in _ _ _).step ?_;have j:=u.trans n;by_cases q:0<=x.1/\x.1<=c.2.2.2.1-1
 ·have a:decide (0<=x.1/\x.1<=c.2.2.2.1-1)=true:=cr q;simp only[a,zS,gm,ag,B];refine(c_in _ _ _).step ?_;by_cases r:1<=x.2.1/\x.2.1<=4294967295
  ·have f:decide (1<=x.2.1/\x.2.1<=4294967295)=true:=cr r;simp only[f,zS,eX,jo,ag,C,f1,aH,l];refine(c_in _ _ _).step ?_;by_cases s:0<=x.2.2.1/\x.2.2.1<=c.2.1-1
   ·have g:decide (0<=x.2.2.1/\x.2.2.1<=c.2.1-1)=true:=cr s;simp only[g,zS,iz,eW,ag,p,o];refine(c_in _ _ _).step ?_;by_cases t:1<=x.2.2.2.2/\x.2.2.2.2<=c.2.2.1
    ·have k:decide (1<=x.2.2.2.2/\x.2.2.2.2<=c.2.2.1)=true:=cr t;have m:IntKind.i64.wrap (c.2.2.1-x.2.2.2.2)=c.2.2.1-x.2.2.2.2:=ap dB dB;simp only[k,zS,hC,ag,D,p,o,aH,m];refine(c_in _ _ _).step ?_;try simp only[zS]
     exact⟨by rw[kf,a,f,g,k];rfl,j⟩
    ·have k:decide (1<=x.2.2.2.2/\x.2.2.2.2<=c.2.2.1)=false:=bZ t;simp only[k,zS];exact⟨by rw[kf,a,f,g,k];rfl,j⟩
   ·have g:decide (0<=x.2.2.1/\x.2.2.1<=c.2.1-1)=false:=bZ s;simp only[g,zS];exact⟨by rw[kf,a,f,g];rfl,j⟩
  ·have f:decide (1<=x.2.1/\x.2.1<=4294967295)=false:=bZ r;simp only[f,zS];exact⟨by rw[kf,a,f];rfl,j⟩
 ·have a:decide (0<=x.1/\x.1<=c.2.2.2.1-1)=false:=bZ q;simp only[a,zS];exact⟨by rw[kf,a];rfl,j⟩
end
section
variable{w w0 w1 w2 w':World}{T T1 T2 T':dH}{h:Hm}{c:cx}{m m':bd}{o o' b sb lb q kb wb:Nat}{es es':List TypeId}{k:jE}{id:Nat}{hv:Value}{p1 p2 p3 p4 p5 p6 p7:Option Addr}
theorem sh{e:TypeId}{x:eN}(hb:hp w q=some (.cells (tp x) e)):gi prog 32 (bS q) w=some (.agg (tp x)):=aR (t:=32) (c:=tp x) qJ (show(Tryz.prog.info? 32).map (·.size)=some (tp x).size from lP) hb
theorem c_fits(N:gG c)(R:Rel w T)(H:dG T h c m)(hT:T kb=some (tU o h.wb id b k hv p1 p2 p3 p4 p5 p6 p7))(op:eu)(x:eN):aa prog 136 [ptr kb,.agg (cI op).toArray,.agg (tp x)] w λv w'=>v= .bool (jF c op x)/\ad [] w w':=by
 apply F136_ok;simp only[F136,ak,aq];generalize d:w.alloc (.cells (cI op).toArray 37)=w1;have E:ad [] w w1:=by rw[<- d];exact(ad.refl _ _).alloc _
 have F:hp w1 w.heap.size=some (.cells (cI op).toArray 37):=by rw[<- d,af,bU rfl]
 clear d;generalize e:w1.alloc (.cells (tp x) 32)=w2;have B:ad [] w1 w2:=by rw[<- e];exact(ad.refl _ _).alloc _
 have C:hp w2 w1.heap.size=some (.cells (tp x) 32):=by rw[<- e,af,bU rfl]
 have s:=B.at F (by simp);clear e;have f:=E.trans B;have t:=R.aF f;have G:an (hp w2 w.heap.size) (0+0)=some (bN op.1):=by rw[s];rfl
 have f0:an (hp w2 kb) (0+0)=some (ptr h.wb):=by rw[t.kK hT];rfl
 have q:=(ad.refl [] w2).drew;simp only[ac,am,ag,G];refine(c_Of op.1 _).step ?_;generalize g:gu op.1=n;have u:=mQ (w:=w2.drew) (t.aF q) H;have y:=sh (w:=w2.drew) C;by_cases k1:n=1
 ·have i:(n==1)=true:=by rw[k1];rfl
  simp only[ptr,ae,ac,zS,i,hJ,bJ,fW,f0,u,y];refine(c_Region N x).mono ?_;rintro _ j ⟨rfl,l⟩;exact⟨by rw[jF,g,bU k1],(f.trans q).trans l⟩
 ·have i:(n==1)=false:=cH k1;by_cases k2:n=2
  ·have r:(n==2)=true:=by rw[k2];rfl
   simp only[ptr,ae,ac,zS,i,r,hJ,bJ,fW,f0,u,y];refine(c_Object N x).mono ?_;rintro _ j ⟨rfl,l⟩;exact⟨by rw[jF,g,bV k1,bU k2],(f.trans q).trans l⟩
  ·have r:(n==2)=false:=cH k2;by_cases p:n=3
   ·have z:(n==3)=true:=by rw[p];rfl
    simp only[ptr,ae,ac,zS,i,r,z,hJ,bJ,fW,f0,u,y];refine(c_Region N x).mono ?_;rintro _ j ⟨rfl,l⟩;have a:=q.trans l;cases D:iG c x with
    |true=>
     simp only[zS];exact⟨by rw[jF,g,bV k1,bV k2,bU p,D];rfl,f.trans a⟩
    |false=>
     have A:an (hp j kb) (0+0)=some (ptr h.wb):=lj a f0;simp only[ptr,ae,ac,zS,hJ,bJ,fW,A,mQ (w:=j) (t.aF a) H,sh (w:=j) (a.at C (by simp))];refine(c_Object N x).mono ?_;rintro _ J ⟨rfl,I⟩;try simp only[zS]
     exact⟨by rw[jF,g,bV k1,bV k2,bU p,D];rfl,(f.trans a).trans I⟩
   ·have z:(n==3)=false:=cH p;simp only[zS,i,r,z];exact⟨by rw[jF,g,bV k1,bV k2,bV p],f⟩
theorem keys_one(l:List iH):∀u∈lG l,u.oneCell'=true:=λu a=>by
 obtain⟨y,_,hy⟩:=List.mem_flatMap.1 a;rcases cV.1 hy with rfl|hy
 ·rfl
 ·rw[db.1 hy];rfl
theorem c_gHold(R:Rel w T)(hT:T kb=some (tU o wb id b k hv p1 p2 p3 p4 p5 p6 p7))(K:SlK w T hv k.holds)(J:k.holds.length<=100)(slot gen:Int):aa prog 150 [tV kb,bN slot,bN gen] w λv w'=>(∃ n,v=bN n)/\∃T' a,Gx (λq=>q=kb) w T w' T'/\SlK w' T' a (kF k slot gen).holds/\T' kb=some (tU o wb id b (kF k slot gen) a p1 p2 p3 p4 p5 p6 p7):=by
 apply F150_ok;obtain⟨f0,f1⟩:=wk_d R hT;have M:=K;have cL:kF k slot gen=k->∃T' a,Gx (λq=>q=kb) w T w T'/\SlK w T' a (kF k slot gen).holds/\T' kb=some (tU o wb id b (kF k slot gen) a p1 p2 p3 p4 p5 p6 p7):=λe=>⟨T,hv,Gx.refl R,by rw[e];exact M,by rw[e];exact hT⟩
 by_cases c:k.depth=0
 ·have q:(k.depth==0)=true:=by rw[c];rfl
  simp only[F150,tV,ae,ac,zS,gM,ag,f0,q];exact⟨⟨_,rfl⟩,cL (by rw[kF,bU (.inl c)])⟩
 ·have q:(k.depth==0)=false:=cH c;simp only[F150,tV,ae,ac,zS,gM,ag,f0,q];refine(c_gHolds R hT K J slot gen).step ?_;cases C:oX k slot gen with
  |true=>
   simp only[zS];exact⟨⟨_,rfl⟩,cL (by rw[kF,bU (.inr (.inl C))])⟩
  |false=>
   obtain⟨A,n,rfl,hn,L⟩:=K;by_cases g:k.holds.length=8
   ·have l:((k.holds.length:Int)==8)=true:=by rw[g];rfl
    simp only[ac,zS,jL,kW,f1,jt,l];exact⟨⟨_,rfl⟩,cL (by rw[kF,bU (.inr (.inr g))])⟩
   ·have l:((k.holds.length:Int)==8)=false:=cH dB;have r:ai prog (Instr.build 256 #[(0,bN slot),(1,bN gen)])=some (.agg #[bN slot,bN gen]):=tG;simp only[ac,zS,jL,kW,f1,jt,l,r];have D:kF k slot gen={k with holds:=k.holds++ [(slot,gen)]}:=by rw[kF,bV (by rintro(h|h|h);exact c h;rw[C]at h;cases h;exact g h)]
    obtain⟨i,O,P,Q,hb⟩:=inf_256;have s:(lG k.holds).length=k.holds.length*2:=by rw[lG,gL keyC_len]
    refine ja (base:=w.heap.size) (xs:= []) (n:=0) (news:=lG k.holds) (m:=k.holds.length) Tryz.underlying161 O P Q rfl dB (World.ownsRow_nil _ _ _ _) s (λj u S=>L.rd j u S) (keys_one _) (by unfold maxLen;omega) (by rw[hb];omega) (cy _) λU w1 d V=>?_;have E:ad [] w w1:=(ad.refl _ _).grown V λk t=>by simp[Value.ownBlock]at t
    have d:w1.ownsRow w.heap.size 256 2 U k.holds.length (lG k.holds):=by simpa using d
    refine ps_161 (by simp) d dB E.size λv2 w2 f x W=>?_;have F:ad [] w w2:=E.grown x λk t=> .inr (oS d t);have f:w2.ownsRow w.heap.size 256 2 v2 (k.holds++ [(slot,gen)]).length (lG (k.holds++ [(slot,gen)])):=by
     have e:lG (k.holds++ [(slot,gen)])=lG k.holds++ [bN slot,bN gen]:=by simp[lG,keyC]
     rw[e,cq];exact f
    obtain⟨y,G,H,z⟩:=own_cap f;obtain⟨A',n',e',X,Y,_⟩:=aT f;rw[H]at e';cases e';subst H;have Z:Lo w2 T y (lG (k.holds++ [(slot,gen)])):=Lo.new R X λp hp=>(Y p hp).1;try simp only[ae,ac,jL]
    refine aA (A':=mJ wb id b {k with holds:=k.holds++ [(slot,gen)]} (.slice y (k.holds++ [(slot,gen)]).length G) p1 p2 p3 p4 p5 p6 p7) (R.aF F) hT sz_161 ⟨rfl,rfl⟩ dE (by rw[aM];omega) λw3 T3 I B _ _=>?_;refine⟨⟨_,by first|rfl|trivial⟩,T3,_,(Gx.bL R F).trans I,?_,by rw[D];exact B⟩;rw[D];exact⟨y,G,rfl,z,Z.gx I⟩
end
section
variable{w w0 w1 w2 w':World}{T T1 T2 T':dH}{h:Hm}{c:cx}{m m':bd}{o o' b sb lb q kb wb:Nat}{es es':List TypeId}{k:jE}{id:Nat}{hv:Value}{p1 p2 p3 p4 p5 p6 p7:Option Addr}
def McR(w:World)(T:dH)(o b:Nat)(h:Hm)(id:Nat)(p1 p2 p3 p4 p5 p6 p7:Option Addr):McV->Prop
 | .none=>True
 | .create x=>∃q,p1=some ⟨q,0,none⟩/\CrR T o q h x
 | .alloc x=>∃q,p2=some ⟨q,0,none⟩/\AlR w T o q b h x
 | .enter x=>∃q,p3=some ⟨q,0,none⟩/\EnR T o q h id x
 | .leave d=>∃q,p4=some ⟨q,0,none⟩/\LvR T o q h id d
 | .look x=>∃q,p5=some ⟨q,0,none⟩/\LkR T o q h x
 | .free x=>∃q,p6=some ⟨q,0,none⟩/\FrR w T o q b h x
 | .collect x=>∃q,p7=some ⟨q,0,none⟩/\CoR w T o q b h x
def tW(w:World)(T:dH)(o kb:Nat)(h:Hm)(c:cx)(id:Nat)(k:jE):Prop:=∃b sb lb hv p1 p2 p3 p4 p5 p6 p7,T kb=some (tU o h.wb id b k hv p1 p2 p3 p4 p5 p6 p7)/\fN w T o b sb lb h c k.su/\SlK w T hv k.holds/\McR w T o b h id p1 p2 p3 p4 p5 p6 p7 k.mc
theorem SlK.gx{S:Nat->Prop}{v:Value}{l:List iH}(K:SlK w T v l)(g:Gx S w T w' T'):SlK w' T' v l:=by
 obtain⟨A,n,e,a,L⟩:=K;exact⟨A,n,e,a,L.gx g⟩
theorem SlK.aF{v:Value}{l:List iH}(K:SlK w T v l)(a:ad [] w w'):SlK w' T v l:=by
 obtain⟨A,n,e,b,L⟩:=K;exact⟨A,n,e,b,L.aF a⟩
def fK(h:Hm)(T:dH)(o:Nat)(q:Nat):Prop:=q=h.mb\/∃e cs,T q=some (.st o e cs)
theorem SM.wk(q:Nat)(a:SM h T o es q):fK h T o q:=a.imp id fun⟨e,cs,b,_⟩=>⟨e,cs,b⟩
theorem fK.then(g:Gx (fK h T o) w T w1 T1)(c:Gx (fK h T1 o) w1 T1 w2 T2):Gx (fK h T o) w T w2 T2:=g.then c λq d hT a=>by
 rcases a with a|⟨e,cs,a⟩
 ·exact .inl a
 ·refine .inr ?_;cases d with
  |own x j=>have:=g.own q x j hT;rw[this]at a;cases a
  |st f i b=>
   obtain⟨k,l⟩:=g.ty q f i b hT;rw[l]at a;cases a;exact⟨_,_,hT⟩
theorem GiR.si{S:Nat->Prop}{b:Nat}{x:GiV}(G:GiR w T o b h x)(g:Gx S w T w' T')(c:∀q e cs,T q=some (.st o e cs)->e≠172->¬S q):GiR w' T' o b h x:=
 G.gx g (by obtain⟨q,v,a,_⟩:=G;exact c _ _ _ a dC) λq cs a=>c _ _ _ a dC
theorem McR.si{S:Nat->Prop}{x:McV}(M:McR w T o b h id p1 p2 p3 p4 p5 p6 p7 x)(g:Gx S w T w' T')(c:∀q e cs,T q=some (.st o e cs)->e≠172->¬S q):McR w' T' o b h id p1 p2 p3 p4 p5 p6 p7 x:=by
 cases x with
 |none=>trivial
 |create x=>
  obtain⟨q,e,y,hT,m⟩:=M;exact⟨q,e,y,g.off q _ hT (c _ _ _ hT dC),λa d=>by obtain⟨l,f,j⟩:=m a d;exact⟨l,f,g.off l _ j (c _ _ _ j dC)⟩⟩
 |alloc x=>
  obtain⟨q,e,y,z,hT,m,r⟩:=M;exact⟨q,e,y,z,g.off q _ hT (c _ _ _ hT dC),λa d=>by obtain⟨tb,f,j⟩:=m a d;exact⟨tb,f,j.gx g λk e cs s t=>c _ _ _ s (by rcases t with rfl|rfl<;>decide)⟩,λa d=>by obtain⟨tb,f,j⟩:=r a d;exact⟨tb,f,j.si g c⟩⟩
 |enter x=>obtain⟨q,e,hT⟩:=M;exact⟨q,e,g.off q _ hT (c _ _ _ hT dC)⟩
 |leave d=>obtain⟨q,e,hT⟩:=M;exact⟨q,e,g.off q _ hT (c _ _ _ hT dC)⟩
 |look x=>obtain⟨q,e,hT⟩:=M;exact⟨q,e,g.off q _ hT (c _ _ _ hT dC)⟩
 |free x=>
  obtain⟨q,e,eb,y,z,v,hT,E,n,j,u⟩:=M;exact⟨q,e,eb,y,z,v,g.off q _ hT (c _ _ _ hT dC),g.off eb _ E (c _ _ _ E dC),λa d=>by obtain⟨kb,f,i⟩:=n a d;exact⟨kb,f,g.off kb _ i (c _ _ _ i dC)⟩,λa d=>by obtain⟨l,f,i⟩:=j a d;exact⟨l,f,i.gx g (by obtain⟨_,_,hp,_⟩:=i;exact c _ _ _ hp dC)⟩,λa d=>by obtain⟨p,f,i⟩:=u a d;exact⟨p,f,i.si g c⟩⟩
 |collect x=>
  obtain⟨q,e,ab,z,hT,A,n⟩:=M;exact⟨q,e,ab,z,g.off q _ hT (c _ _ _ hT dC),g.off ab _ A (c _ _ _ A dC),λa d=>by obtain⟨p,f,i⟩:=n a d;exact⟨p,f,i.si g c⟩⟩
theorem tW.si{S:Nat->Prop}(K:tW w T o kb h c id k)(g:Gx S w T w' T')(a:∀q e cs,T q=some (.st o e cs)->¬S q):tW w' T' o kb h c id k:=by
 obtain⟨b,sb,lb,hv,p1,p2,p3,p4,p5,p6,p7,hT,U,L,M⟩:=K;exact⟨b,sb,lb,hv,p1,p2,p3,p4,p5,p6,p7,g.off kb _ hT (a _ _ _ hT),U.gx g (a _ _ _ U.n) (by obtain⟨_,d,_⟩:=U.s;exact a _ _ _ d) (by obtain⟨_,d,_⟩:=U.l;exact a _ _ _ d),L.gx g,M.si g λq e cs h _=>a q e cs h⟩
theorem tW.other(K:tW w T o kb h c id k)(H:dG T h c m)(f:o≠0)(b:o≠o')(g:Gx (fK h T o') w T w' T'):tW w' T' o kb h c id k:=K.si g λq e cs d a=>by
 rcases a with a|⟨l,i,a⟩
 ·obtain⟨n,j⟩:=H.mT;rw[a,j]at d;cases d;exact f rfl
 ·rw[d]at a;cases a;exact b rfl
end
section
variable{w w0 w1 w2 w':World}{T T1 T2 T':dH}{h:Hm}{c:cx}{m m':bd}{o o' b sb lb q kb wb q4 q5:Nat}{es es':List TypeId}{k:jE}{id:Nat}{hv:Value}{p1 p2 p3 p4 p5 p6 p7:Option Addr}
theorem fO{e:TypeId}{cs:List fF}(hT:T kb=some (.st o e cs))(g:Gx (λq=>q=kb) w T w' T'):Gx (fK h T o) w T w' T':=g.mono λq a=> .inr (by rw[a];exact⟨e,cs,hT⟩)
theorem wkNo(g:Gx (λ_=>False) w T w' T'):Gx (fK h T o) w T w' T':=g.mono λ_ h=>h.elim
theorem wkSM(g:Gx (SM h T o es) w T w' T'):Gx (fK h T o) w T w' T':=g.mono λq a=>SM.wk q a
theorem ku(n:Int):ai prog (Instr.build 35 #[(0,bN n)])=some (.agg (od (bn n))):=bd_35_0
theorem mS(R:Rel w T)(H:dG T h c m)(f:o≠0)(U:fN w T o b sb lb h c k.su)(L:SlK w T hv k.holds)(hT:T kb=some (tU o h.wb id b k hv p1 p2 p3 p4 p5 p6 p7))(r:jI){K:Value->World->Prop}
  (g:∀w' T',Gx (fK h T o) w T w' T'->dG T' h c m->tW w' T' o kb h c id (bO k r)->K (.tuple #[]) w'):aa prog 137 [ptr kb,.agg (od r)] w K:=by
 refine(c_ends R hT r).mono ?_;rintro _ w1 ⟨rfl,T1,a,d⟩;exact g w1 T1 (fO hT a) (H.bP a hT f) ⟨b,sb,lb,hv,p1,p2,p3,p4,p5,p6,p7,d,U.gx a (ay U.n hT dC) (by obtain⟨_,e,_⟩:=U.s;exact ay e hT dC) (by obtain⟨_,e,_⟩:=U.l;exact ay e hT dC),L.gx a,trivial⟩
theorem tX{mc':McV}(U:fN w T o b sb lb h c k.su)(L:SlK w T hv k.holds)(M:McR w T o b h id p1 p2 p3 p4 p5 p6 p7 mc'){m p r t u v x:Option Addr}{y:jE}(a:T kb=some (tU o h.wb id b y hv m p r t u v x))(g:Gx (λq=>q=kb) w T w' T')(d:T' kb=some (tU o h.wb id b {k with mc:=mc'} hv p1 p2 p3 p4 p5 p6 p7)):tW w' T' o kb h c id {k with mc:=mc'}:=by
 refine⟨b,sb,lb,hv,p1,p2,p3,p4,p5,p6,p7,d,?_,L.gx g,M.si g λq e cs j f z=>?_⟩
 ·exact U.gx g (ay U.n a dC) (by obtain⟨_,i,_⟩:=U.s;exact ay i a dC) (by obtain⟨_,i,_⟩:=U.l;exact ay i a dC)
 ·rw[z,a]at j;cases j;exact f rfl
theorem ld_opA{e:TypeId}{x:eu}(hb:hp w q=some (.cells (cI x).toArray e)):gi prog 37 (bS q) w=some (.agg (cI x).toArray):=aR (t:=37) (c:=(cI x).toArray) td (show(Tryz.prog.info? 37).map (·.size)=some (cI x).toArray.size from nC) hb
def uc(T:dH)(w:World)(o kb:Nat)(h:Hm)(c:cx)(m:bd)(id:Nat)(a:jE)(v:Value)(w':World):Prop:=v= .bool true/\∃T',Gx (fK h T o) w T w' T'/\dG T' h c m/\tW w' T' o kb h c id a
theorem wk_tail{op:eu}{x:eN}(N:gG c)(R:Rel w T)(H:dG T h c m)(M:o≠0)(U:fN w T o b sb lb h c k.su)(L:SlK w T hv k.holds)(hT:T kb=some (tU o h.wb id b k hv p1 p2 p3 p4 p5 p6 p7))(b4:hp w q4=some (.cells (cI op).toArray 37))(b5:hp w q5=some (.cells (tp x) 32))(a7:0<=k.depth/\k.depth<=15)(b7:k.holds.length<=100):
  P101_0 (ptr kb) (ptr q4) (ptr q5) w (uc T w o kb h c m id (if jF c op x=false then bO k (bn 2)else jG c k op x)):=by
 apply L101_0_ok;simp only[L101_0,ptr,ac,ld_opA b4,sh b5];refine(c_fits N R H hT op x).mono ?_;rintro _ w1 ⟨rfl,D⟩;have E:=R.aF D;have a8:=D.at b4 (by simp);have a1:=D.at b5 (by simp);have j:=U.aF D;have z:=L.aF D;cases hf:jF c op x with
 |false=>
  simp only[zS,ku,reduceIte];refine mS (k:=k) E H M j z hT (bn 2) λw2 T2 d H2 K2=>?_;exact⟨by first|rfl|trivial,T2,(Gx.bL R D).trans d,H2,K2⟩
 |true=>
  have F:an (hp w1 q4) (0+0)=some (bN op.1):=by rw[a8];rfl
  have l3:an (hp w1 q4) (0+3)=some (bN op.2.2.2.1):=by rw[a8];rfl
  have n0:an (hp w1 q5) (0+0)=some (bN x.1):=by rw[a1];rfl
  have n1:an (hp w1 q5) (0+1)=some (bN x.2.1):=by rw[a1];rfl
  have n4:an (hp w1 q5) (0+4)=some (bN x.2.2.2.2):=by rw[a1];rfl
  rw[bV dC];have g:=(ad.refl [] w1).drew;have V:=E.aF g;have a2:hp w1 kb=some (.cells (mJ h.wb id b k hv p1 p2 p3 p4 p5 p6 p7) 172):=E.kK hT;have C:an (hp w1 kb) (0+0)=some (ptr h.wb):=by rw[a2];rfl
  have a9:an (hp w1 kb) (0+1)=some (bN id):=by rw[a2];rfl
  have a3:an (hp w1 kb) (0+2)=some (ptr b):=by rw[a2];rfl
  have fin:∀(w2:World) (T2:dH),Gx (fK h T o) w T w2 T2->dG T2 h c m->tW w2 T2 o kb h c id (jG c k op x)->P101_1 w2 (uc T w o kb h c m id (jG c k op x)):=λw2 T2 d H2 K2=>by
   apply L101_1_ok;exact⟨rfl,T2,d,H2,K2⟩
  by_cases k1:op.1=1
  ·have e:jG c k op x={k with mc:= .create (crNew op.2.2.2.1)}:=by rw[jG,bU k1]
   have q1:(op.1==1)=true:=by rw[k1];rfl
   simp only[zS,ptr,am,bc,hJ,ag,fW,F,l3,q1,C];refine(c_Create V H op.2.2.2.1 o).mono ?_;rintro _ w2 ⟨xb,T2,rfl,d,G⟩;have a:=d.off kb _ hT (λh=>h);try simp only[zS,ptr,pn]
   refine aA (A':=mJ h.wb id b {k with mc:= .create (crNew op.2.2.2.1)} hv (some ⟨xb,0,none⟩) p2 p3 p4 p5 p6 p7) d.rel a sz_164 ⟨rfl,rfl⟩ dE (by rw[aM];omega) λA B f i _ _=>?_;have I:=tX (p1:=some ⟨xb,0,none⟩) (k:=k) (mc':= .create (crNew op.2.2.2.1)) ((j.aF g).no d) ((z.aF g).gx d) ⟨xb,rfl,G⟩ a f i;have t:=fK.then (fK.then (Gx.bL (S:=fK h T o) R (D.trans g)) (wkNo d)) (fO a f)
   exact fin A B t ((H.no d).bP f a M) (by rw[e];exact I)
  have q1:(op.1==1)=false:=cH k1;have k3:=N.n3;have c6:=N.b3;by_cases k2:op.1=2
  ·have q2:(op.1==2)=true:=by rw[k2];rfl
   have b1:an (hp w1 h.wb) (0+0+2)=some (bN c.2.2.1):=(mR E H).2.1;have e:jG c k op x=(if op.2.2.2.1<1\/c.2.2.1<op.2.2.2.1 then bO k (bn 5)else{k with mc:= .alloc (alNew x.1 x.2.1 op.2.2.2.1)}):=by rw[jG,bV k1,bU k2]
   by_cases hb:op.2.2.2.1<1\/c.2.2.1<op.2.2.2.1
   ·rw[bU hb]at e;have b2:∀w2,ad [] w1 w2->aa prog 137 [ptr kb,.agg (od (bn 5))] w2 λ_ w'=>P101_1 w' (uc T w o kb h c m id (jG c k op x)):=λw2 p=>by
     refine mS (k:=k) (E.aF p) H M (j.aF p) (z.aF p) hT (bn 5) λA B f H3 K3=>?_;exact fin A B ((Gx.bL R (D.trans p)).trans f) H3 (by rw[e];exact K3)
    by_cases h1:op.2.2.2.1<1
    ·simp only[zS,am,bc,ag,F,l3,q1,q2,h1,ku];exact b2 _ g
    ·have h2:op.2.2.2.1>c.2.2.1:=dB;simp only[zS,ptr,am,bc,hJ,bJ,eW,fW,ag,F,l3,q1,q2,C,b1,h1,h2,ku];exact b2 _ g
   ·rw[bV hb]at e;have h1:¬op.2.2.2.1<1:=λh=>hb (.inl h);have h2:¬c.2.2.1<op.2.2.2.1:=λh=>hb (.inr h);have W:=g.trans (ad.refl [] w1.drew).drew;simp only[zS,ptr,am,bc,bu,gm,hJ,fa_172_2,bJ,eW,fW,jD,ag,F,l3,n0,n1,q1,q2,C,a3,b1,h1,h2];refine(c_Alloc (h:=h) (E.aF W) x.1 x.2.1 op.2.2.2.1 o).mono ?_;rintro _ w2 ⟨ab,T2,rfl,d,G⟩;have a:=d.off kb _ hT (λh=>h);try simp only[zS,ptr,fa_172_12]
    refine aA (A':=mJ h.wb id b {k with mc:= .alloc (alNew x.1 x.2.1 op.2.2.2.1)} hv p1 (some ⟨ab,0,none⟩) p3 p4 p5 p6 p7) d.rel a sz_165 ⟨rfl,rfl⟩ dE (by rw[aM];omega) λA B f i _ _=>?_;have I:=tX (p2:=some ⟨ab,0,none⟩) (k:=k) (mc':= .alloc (alNew x.1 x.2.1 op.2.2.2.1)) ((j.aF W).no d) ((z.aF W).gx d) ⟨ab,rfl,G⟩ a f i;have t:=fK.then (fK.then (Gx.bL (S:=fK h T o) R (D.trans W)) (wkNo d)) (fO a f)
    exact fin A B t ((H.no d).bP f a M) (by rw[e];exact I)
  have q2:(op.1==2)=false:=cH k2;by_cases X:op.1=10
  ·have e:jG c k op x={k with mc:= .free (tm x.1 x.2.1)}:=by rw[jG];simp[X]
   simp only[zS,ptr,am,bu,gm,fa_172_2,jD,ag,F,n0,n1,X,Int.reduceBEq,a3];refine(c_Free V (j.aF g) x.1 x.2.1).mono ?_;rintro _ w2 ⟨ab,T2,rfl,d,G⟩;have a:=d.off kb _ hT (λh=>h);try simp only[zS,ptr,fa_172_16]
   refine aA (A':=mJ h.wb id b {k with mc:= .free (tm x.1 x.2.1)} hv p1 p2 p3 p4 p5 (some ⟨ab,0,none⟩) p7) d.rel a sz_169 ⟨rfl,rfl⟩ dE (by rw[aM];omega) λA B f i _ _=>?_;have I:=tX (p6:=some ⟨ab,0,none⟩) (k:=k) (mc':= .free (tm x.1 x.2.1)) ((j.aF g).no d) ((z.aF g).gx d) ⟨ab,rfl,G⟩ a f i;have t:=fK.then (fK.then (Gx.bL (S:=fK h T o) R (D.trans g)) (wkNo d)) (fO a f)
   exact fin A B t ((H.no d).bP f a M) (by rw[e];exact I)
  by_cases Y:op.1=11
  ·have e:jG c k op x={k with mc:= .collect coNew}:=by rw[jG];simp[Y]
   simp only[zS,ptr,am,fa_172_2,jD,ag,F,Y,Int.reduceBEq,a3];refine(c_Collect E H j).mono ?_;rintro _ w2 ⟨ab,T2,rfl,d,G⟩;have a:=d.off kb _ hT (λh=>h);try simp only[zS,ptr,fa_172_17]
   refine aA (A':=mJ h.wb id b {k with mc:= .collect coNew} hv p1 p2 p3 p4 p5 p6 (some ⟨ab,0,none⟩)) d.rel a sz_170 ⟨rfl,rfl⟩ dE (by rw[aM];omega) λA B f i _ _=>?_;have I:=tX (p7:=some ⟨ab,0,none⟩) (k:=k) (mc':= .collect coNew) (j.no d) (z.gx d) ⟨ab,rfl,G⟩ a f i;have t:=fK.then (fK.then (Gx.bL (S:=fK h T o) R D) (wkNo d)) (fO a f)
   exact fin A B t ((H.no d).bP f a M) (by rw[e];exact I)
  have a4:ai prog (Instr.build 226 #[(0,ptr h.wb),(1,bN x.1),(2,bN x.2.1)])=some (.agg (lkA h.wb (qO x.1 x.2.1))):=bd_226_0_1_2;simp only[ptr]at a4;have look:jG c k op x={k with mc:= .look (qO x.1 x.2.1)}->∀w2,ad [] w1 w2->ck prog (Instr.storeAt 168 (.pointer (some ⟨kb,0+32,none⟩)) (bS w2.heap.size)) (w2.alloc (.cells (lkA h.wb (qO x.1 x.2.1)) 226)) λw'=>P101_1 w' (uc T w o kb h c m id (jG c k op x)):=λe w2 p=>by
   have d:=Gx.pR (S:=λ_=>False) (E.aF p) o 226 (lkA h.wb (qO x.1 x.2.1)).toList;have G:LkR (ig T w2.heap.size (.st o 226 ((lkA h.wb (qO x.1 x.2.1)).toList.map fF.v))) o w2.heap.size h (qO x.1 x.2.1):=ax;have a:=d.off kb _ hT (λh=>h);refine aA (A':=mJ h.wb id b {k with mc:= .look (qO x.1 x.2.1)} hv p1 p2 p3 p4 (some ⟨w2.heap.size,0,none⟩) p6 p7) d.rel a sz_168 ⟨rfl,rfl⟩ dE (by rw[aM];omega) λA B f i _ _=>?_;have I:=tX (p5:=some ⟨w2.heap.size,0,none⟩) (k:=k) (mc':= .look (qO x.1 x.2.1)) ((j.aF p).no d) ((z.aF p).gx d) ⟨_,rfl,G⟩ a f i;have t:=fK.then (fK.then (Gx.bL (S:=fK h T o) R (D.trans p)) (wkNo d)) (fO a f)
   exact fin A B t ((H.no d).bP f a M) (by rw[e];exact I)
  by_cases Z:op.1=12
  ·have e:jG c k op x={k with mc:= .look (qO x.1 x.2.1)}:=by rw[jG];simp[Z]
   simp only[zS,ptr,am,bu,gm,hJ,po,fW,ag,F,n0,n1,Z,Int.reduceBEq,C,a4,ak,aq];exact look e _ g
  have k9:an (hp w1 h.wb) (0+9)=some (ptr h.eb):=(mR E H).2.2.2.2;have kd:an (hp w1 kb) (0+3+0)=some (bN k.depth):=(wk_d E hT).1;have now:∀(w2:World) (T2:dH) (k2:jE) (a5:Value) (r:jI),Gx (fK h T o) w T w2 T2->dG T2 h c m->fN w2 T2 o b sb lb h c k2.su->SlK w2 T2 a5 k2.holds->T2 kb=some (tU o h.wb id b k2 a5 p1 p2 p3 p4 p5 p6 p7)->jG c k op x=bO k2 r->
    aa prog 137 [ptr kb,.agg (od r)] w2 λ_ w'=>P101_1 w' (uc T w o kb h c m id (jG c k op x)):=λw2 T2 k2 a5 r d H2 U2 L2 a e=>by
   refine mS (k:=k2) d.rel H2 M U2 L2 a r λA B f H3 K3=>?_;exact fin A B (fK.then d f) H3 (by rw[e];exact K3)
  have a6:Gx (fK h T o) w T w1 T:=Gx.bL R D;have q:Gx (fK h T o) w T w1.drew T:=Gx.bL R (D.trans g);by_cases J:op.1=3
  ·by_cases y:k.depth=0
   ·have e:jG c k op x={k with mc:= .enter ⟨0,0,false⟩}:=by rw[jG];simp[J,y]
    have O:ai prog (Instr.build 220 #[(0,ptr h.eb),(1,bN id)])=some (.agg (enA h.eb id ⟨0,0,false⟩)):=bd_220_0_1;simp only[ptr]at O;have P:(k.depth==0)=true:=by rw[y];rfl
    simp only[zS,ptr,am,hJ,fa_172_1,jM,fa_172_13,gM,fa_153_4,fW,qm,ag,F,J,Int.reduceBEq,C,a9,k9,kd,P,O,ak,aq];have d:=Gx.pR (S:=λ_=>False) V o 220 (enA h.eb id ⟨0,0,false⟩).toList;have G:EnR (ig T w1.drew.heap.size (.st o 220 ((enA h.eb id ⟨0,0,false⟩).toList.map fF.v))) o w1.drew.heap.size h id ⟨0,0,false⟩:=ax;have a:=d.off kb _ hT (λh=>h);refine aA (A':=mJ h.wb id b {k with mc:= .enter ⟨0,0,false⟩} hv p1 p2 (some ⟨w1.drew.heap.size,0,none⟩) p4 p5 p6 p7) d.rel a sz_166 ⟨rfl,rfl⟩ dE (by rw[aM];omega) λA B f i _ _=>?_;have I:=tX (p3:=some ⟨w1.drew.heap.size,0,none⟩) (k:=k) (mc':= .enter ⟨0,0,false⟩) ((j.aF g).no d) ((z.aF g).gx d) ⟨_,rfl,G⟩ a f i;exact fin A B (fK.then (fK.then q (wkNo d)) (fO a f)) ((H.no d).bP f a M) (by rw[e];exact I)
   ·have e:jG c k op x=bO (jV k).2 (bn (jV k).1):=by rw[jG];simp[J,y]
    have P:(k.depth==0)=false:=cH y;simp only[zS,am,jM,gM,ag,F,J,Int.reduceBEq,kd,P];refine(c_gPin E hT a7).mono ?_;rintro _ w2 ⟨u,rfl,T2,d,a⟩;have K:(jV k).2.su=k.su/\(jV k).2.holds=k.holds:=by unfold jV;split<;>exact⟨rfl,rfl⟩
    have U2:=j.gx d (ay j.n hT dC) (by obtain⟨_,K,_⟩:=j.s;exact ay K hT dC) (by obtain⟨_,K,_⟩:=j.l;exact ay K hT dC);try simp only[kG,kH,ac,ku]
    exact now w2 T2 (jV k).2 hv _ (fK.then a6 (fO hT d)) (H.bP d hT M) (by rw[K.1];exact U2) (by rw[K.2];exact z.gx d) a e
  by_cases k4:op.1=4
  ·by_cases Q:k.depth=1
   ·have e:jG c k op x={k with mc:= .leave false}:=by rw[jG];simp[k4,Q]
    have O:ai prog (Instr.build 224 #[(0,ptr h.eb),(1,bN id)])=some (.agg (lvA h.eb id false)):=bd_224_0_1;simp only[ptr]at O;have P:(k.depth==1)=true:=by rw[Q];rfl
    simp only[zS,ptr,am,hJ,fa_172_1,jM,fa_172_14,gM,fa_153_4,fW,qm,ag,F,k4,Int.reduceBEq,C,a9,k9,kd,P,O,ak,aq];have d:=Gx.pR (S:=λ_=>False) V o 224 (lvA h.eb id false).toList;have G:LvR (ig T w1.drew.heap.size (.st o 224 ((lvA h.eb id false).toList.map fF.v))) o w1.drew.heap.size h id false:=ax;have a:=d.off kb _ hT (λh=>h);refine aA (A':=mJ h.wb id b {k with mc:= .leave false} hv p1 p2 p3 (some ⟨w1.drew.heap.size,0,none⟩) p5 p6 p7) d.rel a sz_167 ⟨rfl,rfl⟩ dE (by rw[aM];omega) λA B f i _ _=>?_;have I:=tX (p4:=some ⟨w1.drew.heap.size,0,none⟩) (k:=k) (mc':= .leave false) ((j.aF g).no d) ((z.aF g).gx d) ⟨_,rfl,G⟩ a f i;exact fin A B (fK.then (fK.then q (wkNo d)) (fO a f)) ((H.no d).bP f a M) (by rw[e];exact I)
   ·have e:jG c k op x=bO (dJ k).2 (bn (dJ k).1):=by rw[jG];simp[k4,Q]
    have P:(k.depth==1)=false:=cH Q;simp only[zS,am,jM,gM,ag,F,k4,Int.reduceBEq,kd,P];refine(c_gUnpin E hT a7).mono ?_;rintro _ w2 ⟨u,rfl,T2,d,a⟩;rw[bV Q]at a;have K:(dJ k).2.su=k.su/\(dJ k).2.holds=k.holds:=by
     unfold dJ;split
     ·exact⟨rfl,rfl⟩
     ·simp only;rw[bV dB];exact⟨rfl,rfl⟩
    have U2:=j.gx d (ay j.n hT dC) (by obtain⟨_,K,_⟩:=j.s;exact ay K hT dC) (by obtain⟨_,K,_⟩:=j.l;exact ay K hT dC);try simp only[kG,kH,ac,ku]
    exact now w2 T2 (dJ k).2 hv _ (fK.then a6 (fO hT d)) (H.bP d hT M) (by rw[K.1];exact U2) (by rw[K.2];exact z.gx d) a e
  have b6:ai prog (Instr.build 35 #[])=some (.agg (od lR)):=bd_35_;have gh:∀w2,ad [] w1 w2->aa prog 142 [.pointer (some ⟨kb,0+3,none⟩),bN x.1,bN x.2.1] w2 λv w'=>v= .bool (oX k x.1 x.2.1)/\w'=w2:=λw2 p=>c_gHolds (E.aF p) hT (z.aF p) b7 x.1 x.2.1;by_cases k5:op.1=5
  ·have e:jG c k op x=(if k.depth=0 then bO k (bn 4)else if oX k x.1 x.2.1 then bO k lR else if k.holds.length=8 then bO k (bn 8)else{k with mc:= .look (qO x.1 x.2.1)}):=by rw[jG];simp[k5]
   by_cases y:k.depth=0
   ·rw[bU y]at e;have P:(k.depth==0)=true:=by rw[y];rfl
    simp only[zS,am,jM,gM,ag,F,k5,Int.reduceBEq,kd,P,ku];exact now w1 T k hv _ a6 H j z hT e
   ·rw[bV y]at e;have P:(k.depth==0)=false:=cH y;simp only[zS,am,bu,gm,jM,gM,ag,F,n0,n1,k5,Int.reduceBEq,kd,P];refine(gh _ g).step ?_;cases hh:oX k x.1 x.2.1 with
    |true=>
     rw[bU hh]at e;simp only[zS,b6];exact now w1.drew T k hv _ q H (j.aF g) (z.aF g) hT e
    |false=>
     rw[bV (by rw[hh];decide)]at e;obtain⟨Ak,nk,rfl,b8,Lk⟩:=z;have kh:an (hp w1 kb) (0+3+1)=some (.slice Ak k.holds.length nk):=(wk_d E hT).2;by_cases h8:k.holds.length=8
     ·rw[bU h8]at e;have q8:((k.holds.length:Int)==8)=true:=by rw[h8];rfl
      simp only[zS,jL,kW,jt,kh,q8,ku];exact now w1.drew T k _ _ q H (j.aF g) ⟨Ak,nk,rfl,b8,Lk.aF g⟩ hT e
     ·rw[bV h8]at e;have q8:((k.holds.length:Int)==8)=false:=cH dB;simp only[zS,ptr,hJ,po,jL,kW,fW,jt,kh,q8,n0,n1,C,a4,ak,aq];exact look e _ (g.trans (ad.refl [] w1.drew).drew)
  have e:jG c k op x=(if oX k x.1 x.2.1=false then bO k (bn 4)else if x.2.2.2.2<=op.2.2.2.1 then bO k (bn 5)else{k with mc:= .none}):=by rw[jG];simp[k1,k2,J,k4,k5,X,Y,Z]
  have q3:(op.1==3)=false:=cH J;have b9:(op.1==4)=false:=cH k4;have c2:(op.1==5)=false:=cH k5;have c3:(op.1==10)=false:=cH X;have c4:(op.1==11)=false:=cH Y;have c5:(op.1==12)=false:=cH Z;simp only[zS,am,bu,gm,jM,ag,F,n0,n1,q1,q2,q3,b9,c2,c3,c4,c5];refine(gh _ g).step ?_;cases hh:oX k x.1 x.2.1 with
  |false=>
   rw[bU hh]at e;simp only[zS,ku];exact now w1.drew T k hv _ q H (j.aF g) (z.aF g) hT e
  |true=>
   rw[bV (by rw[hh];decide)]at e;by_cases hn:x.2.2.2.2<=op.2.2.2.1
   ·rw[bU hn]at e;simp only[zS,bc,iz,ag,l3,n4,hn,ku];exact now w1.drew T k hv _ q H (j.aF g) (z.aF g) hT e
   ·rw[bV hn]at e;simp only[zS,bc,iz,ag,l3,n4,hn];exact fin w1.drew T q H (by rw[e];exact⟨b,sb,lb,hv,p1,p2,p3,p4,p5,p6,p7,hT,j.aF g,z.aF g,trivial⟩)
end
section
variable{w w0 w1 w2 w':World}{T T1 T2 T':dH}{h:Hm}{c:cx}{m m':bd}{o o' b sb lb q kb wb q4 q5:Nat}{es es':List TypeId}{k:jE}{id:Nat}{hv:Value}{p1 p2 p3 p4 p5 p6 p7:Option Addr}
theorem c_Start(N:gG c)(R:Rel w T)(H:dG T h c m)(X:o≠0)(K:tW w T o kb h c id k)(A:0<=k.depth/\k.depth<=15)(B:k.holds.length<=100)(op:eu)(x:eN):
  aa prog 101 [ptr kb,.agg (cI op).toArray,.agg (tp x)] w λv w'=>v= .bool (!(k.busy|| !jR op))/\∃T',Gx (fK h T o) w T w' T'/\dG T' h c m/\tW w' T' o kb h c id (iV c k op x):=by
 apply F101_ok;have K0:=K;obtain⟨b,sb,lb,hv,p1,p2,p3,p4,p5,p6,p7,hT,U,L,M⟩:=K;simp only[F101,ak,aq];generalize i:w.alloc (.cells (cI op).toArray 37)=w1;have Y:ad [] w w1:=by rw[<- i];exact(ad.refl _ _).alloc _
 have b1:hp w1 w.heap.size=some (.cells (cI op).toArray 37):=by rw[<- i,af,bU rfl]
 clear i;generalize j:w1.alloc (.cells (tp x) 32)=w2;have Z:ad [] w1 w2:=by rw[<- j];exact(ad.refl _ _).alloc _
 have b5:hp w2 w1.heap.size=some (.cells (tp x) 32):=by rw[<- j,af,bU rfl]
 have b4:=Z.at b1 (by simp);clear j;have u:=Y.trans Z;have n4:T w.heap.size=none:=R.fresh (cy _);have n5:T w1.heap.size=none:=(R.aF Y).fresh (cy _);generalize w.heap.size=q4 at*;generalize w1.heap.size=q5 at*;have R2:=R.aF u;have C:hp w2 kb=some (.cells (mJ h.wb id b k hv p1 p2 p3 p4 p5 p6 p7) 172):=R2.kK hT;have fb:an (hp w2 kb) (0+5)=some (.bool k.busy):=by rw[C];rfl
 have no:k.busy=true\/jR op=false->∀g,ad [] w2 g->∃T',Gx (fK h T o) w T g T'/\dG T' h c m/\tW g T' o kb h c id (iV c k op x):=λhh g p=>by
  have e:iV c k op x=k:=by rw[iV,bU hh]
  rw[e];exact⟨T,Gx.bL R (u.trans p),H,K0.si (Gx.bL (S:=λ_=>False) R (u.trans p)) λ_ _ _ _ h=>h⟩
 cases d:k.busy with
 |true=>
  rw[d]at fb;simp only[zS,ptr,aV,az,fb];exact⟨by first|rfl|trivial|simp,no (.inl d) _ (ad.refl _ _)⟩
 |false=>
 rw[d]at fb;simp only[zS,ptr,aV,az,fb,ld_opA b4];refine(c_refMay op w2).mono ?_;rintro _ g ⟨rfl,p⟩;cases hm:jR op with
 |false=>
  simp only[zS];exact⟨by first|rfl|trivial|simp,no (.inr hm) _ p⟩
 |true=>
 have D:=(ad.refl [] g).drew;have f:=(u.trans p).trans D;have R3:=R.aF f;have r:=D.at (p.at b4 (by simp)) (by simp);have t:=D.at (p.at b5 (by simp)) (by simp);simp only[zS,fV,fa_172_6,jN,eM,fa_172_9,ld_opA (w:=g.drew) r,sh (w:=g.drew) t];repeat' apply And.intro
 all_goals
  refine aA (A':=mJ h.wb id b {k with busy:=true} hv p1 p2 p3 p4 p5 p6 p7) R3 hT m8 ⟨rfl,rfl⟩ dE (by rw[aM];omega) λw4 T4 y E _ _=>?_;have F:=y.loc r n4;have G:=y.loc t n5;try simp only[ac,ld_opA F.1,sh G.1]
  refine nd_ws (A':=mJ h.wb id b {k with busy:=true,o:=op} hv p1 p2 p3 p4 p5 p6 p7) y.rel E nC ⟨rfl,rfl,dC⟩ dE (by rw[aM];omega) λw5 T5 z I _ _=>?_;have d4:=z.loc F.1 F.2;have J:=z.loc G.1 G.2;try simp only[ac,sh J.1]
  refine nd_ws (A':=mJ h.wb id b {k with busy:=true,o:=op,h:=x} hv p1 p2 p3 p4 p5 p6 p7) z.rel I lP ⟨rfl,rfl,dC⟩ dE (by rw[aM];omega) λw6 T6 g6 O _ _=>?_;refine aA (A':=mJ h.wb id b {k with busy:=true,o:=op,h:=x,steps:=0} hv p1 p2 p3 p4 p5 p6 p7) g6.rel O aE ⟨rfl,rfl⟩ dE (by rw[aM];omega) λw7 T7 g7 P _ _=>?_;refine aA (A':=mJ h.wb id b {k with busy:=true,o:=op,h:=x,steps:=0,point:=0} hv p1 p2 p3 p4 p5 p6 p7) g7.rel P aE ⟨rfl,rfl⟩ dE (by rw[aM];omega) λw8 T8 g8 Q _ _=>?_;refine aA (A':=mJ h.wb id b {k with busy:=true,o:=op,h:=x,steps:=0,point:=0,back:=0} hv p1 p2 p3 p4 p5 p6 p7) g8.rel Q aE ⟨rfl,rfl⟩ dE (by rw[aM];omega) λw9 T9 g9 V _ _=>?_;have q:=((g6.trans g7).trans g8).trans g9;have a:=(y.trans z).trans q;have e4:=q.loc d4.1 d4.2;have e5:=q.loc J.1 J.2;refine Part.mono (wk_tail (k:={k with busy:=true,o:=op,h:=x,steps:=0,point:=0,back:=0}) N a.rel (H.bP a hT X) X ((U.aF f).gx a (ay U.n hT dC) (by obtain⟨_,W,_⟩:=U.s;exact ay W hT dC) (by obtain⟨_,W,_⟩:=U.l;exact ay W hT dC)) ((L.aF f).gx a) V e4.1 e5.1 A B) λv w' hq=>?_;obtain⟨e1,T',g',H',K'⟩:=hq;refine⟨by rw[e1];rfl,T',fK.then (fK.then (Gx.bL (S:=fK h T o) R f) (fO hT a)) g',H',?_⟩;have e:iV c k op x=(if jF c op x=false then bO {k with busy:=true,o:=op,h:=x,steps:=0,point:=0,back:=0} (bn 2)else jG c {k with busy:=true,o:=op,h:=x,steps:=0,point:=0,back:=0} op x):=by rw[iV,bV (by rw[d,hm];decide)]
  rw[e];exact K'
end
section
variable{w w0 w1 w2 w':World}{T T1 T2 T':dH}{h:Hm}{c:cx}{m m':bd}{o o' b sb lb q kb wb q4 q5:Nat}{es es':List TypeId}{k:jE}{id:Nat}{hv:Value}{p1 p2 p3 p4 p5 p6 p7:Option Addr}
def McOk(c:cx)(m:bd)(k:jE):McV->Prop
 | .create x=>k.o.1=1/\CrOk c x
 | .alloc x=>k.o.1=2/\AlOk c x
 | .enter x=>k.o.1=3/\x.done=false
 | .leave d=>k.o.1=4/\d=false
 | .look x=>(k.o.1=5\/k.o.1=12)/\LkOk c x/\x.done=false
 | .free x=>k.o.1=10/\FrOk c x
 | .collect x=>k.o.1=11/\CoOk c x/\(fI k.su (fE (cf m 2))).st.length<=100000
 | .none=>(6<=k.o.1/\k.o.1<=9)/\(0<=k.h.2.2.1/\k.h.2.2.1<cC c)/\(0<=k.h.2.2.2.1+k.o.2.2.2.1/\k.h.2.2.2.1+k.o.2.2.2.1<cK c)
structure WkOk(c:cx)(m:bd)(k:jE):Prop where
 depth:0<=k.depth/\k.depth<=15
 holds:k.holds.length<=100
 steps:0<=k.steps/\k.steps<=1000000000
 su:qS k.su
 room:k.su.st.length+100<=100000
 mc:k.busy=true->McOk c m k k.mc
theorem jW(U:fN w T o b sb lb h c k.su){e:jE}{a:Value}{f i j m p r t:Option Addr}(hT:T kb=some (tU o h.wb id b e a f i j m p r t))(g:Gx (λq=>q=kb) w T w' T'):fN w' T' o b sb lb h c k.su:=
 U.gx g (ay U.n hT dC) (by obtain⟨_,d,_⟩:=U.s;exact ay d hT dC) (by obtain⟨_,d,_⟩:=U.l;exact ay d hT dC)
theorem qP{x:McV}(M:McR w T o b h id p1 p2 p3 p4 p5 p6 p7 x){f:jE}{a:Value}{i j k l m n p:Option Addr}(hT:T kb=some (tU o h.wb id b f a i j k l m n p))(g:Gx (λq=>q=kb) w T w' T'):McR w' T' o b h id p1 p2 p3 p4 p5 p6 p7 x:=
 M.si g λq e cs d c r=>by rw[r,hT]at d;cases d;exact c rfl
structure WkF(w:World)(kb wb id b:Nat)(k:jE)(hv:Value)(p1 p2 p3 p4 p5 p6 p7:Option Addr):Prop where
 wb:an (hp w kb) (0+0)=some (ptr wb)
 busy:an (hp w kb) (0+5)=some (.bool k.busy)
 o0:an (hp w kb) (0+6+0)=some (bN k.o.1)
 steps:an (hp w kb) (0+17)=some (bN k.steps)
 c1:an (hp w kb) (0+28)=some (.pointer p1)
 c2:an (hp w kb) (0+29)=some (.pointer p2)
 c3:an (hp w kb) (0+30)=some (.pointer p3)
 c4:an (hp w kb) (0+31)=some (.pointer p4)
 c5:an (hp w kb) (0+32)=some (.pointer p5)
 c6:an (hp w kb) (0+33)=some (.pointer p6)
 c7:an (hp w kb) (0+34)=some (.pointer p7)
theorem ky(R:Rel w T)(hT:T kb=some (tU o wb id b k hv p1 p2 p3 p4 p5 p6 p7)):WkF w kb wb id b k hv p1 p2 p3 p4 p5 p6 p7:=by
 have hb:hp w kb=some (.cells (mJ wb id b k hv p1 p2 p3 p4 p5 p6 p7) 172):=R.kK hT;constructor<;>rw[hb]<;>rfl
end
section
variable{w w0 w1 w2 w':World}{T T1 T2 T':dH}{h:Hm}{c:cx}{m m':bd}{o o' b sb lb q kb wb q4 q5:Nat}{es es':List TypeId}{k:jE}{id:Nat}{hv:Value}{p1 p2 p3 p4 p5 p6 p7:Option Addr}
theorem bd_hn2(x y:Int):ai prog (Instr.build 32 #[(0,bN x),(1,bN y)])=some (.agg (tp (x,y,0,0,0))):=bd_32_0_1
theorem bd_rs01(n:Int)(x:eN):ai prog (Instr.build 35 #[(0,bN n),(1,.agg (tp x))])=some (.agg (od (n,x,0,0))):=bd_35_0_1
theorem bd_rsH(x:eN):ai prog (Instr.build 35 #[(1,.agg (tp x))])=some (.agg (od (0,x,0,0))):=bd_35_1
theorem bd_rs02(n i:Int):ai prog (Instr.build 35 #[(0,bN n),(2,bN i)])=some (.agg (od (n,kJ,i,0))):=bd_35_0_2
theorem bd_rs_:ai prog (Instr.build 35 #[])=some (.agg (od lR)):=bd_35_
theorem s_create(N:gG c)(R:Rel w T)(H:dG T h c m)(u:o≠0)(M:ee c m)(hT:T kb=some (tU o h.wb id b k hv p1 p2 p3 p4 p5 p6 p7))(U:fN w T o b sb lb h c k.su)(L:SlK w T hv k.holds)(hs:0<=k.steps/\k.steps<=1000000000)(hb:k.busy=true)(hk:k.o.1=1){x:CrV}(hm:k.mc= .create x)(X:McR w T o b h id p1 p2 p3 p4 p5 p6 p7 (.create x))(OX:CrOk c x):
  aa prog 102 [ptr kb] w (uc T w o kb h c (aw c id m k).1 id (aw c id m k).2):=by
 obtain⟨xb,rfl,X⟩:=X;apply F102_ok;have F:=ky R hT;have fb:=F.busy;rw[hb]at fb;have ew:IntKind.i64.wrap (k.steps+1)=k.steps+1:=ap dB dB;rw[F102];simp only[ptr,ae,ac,aV,jN,az,ag,fb,F.steps,aj,ew,zS];refine aA (A':=mJ h.wb id b {k with steps:=k.steps+1} hv (some ⟨xb,0,none⟩) p2 p3 p4 p5 p6 p7) R hT aE ⟨rfl,rfl⟩ dE (by rw[aM];omega) λw1 T1 v j _ _=>?_;have XX:McR w1 T1 o b h id (some ⟨xb,0,none⟩) p2 p3 p4 p5 p6 p7 (.create x):=qP ⟨xb,rfl,X⟩ hT v;obtain⟨_,eq,X1⟩:=XX;cases eq;have U1:=jW U hT v;have L1:=L.gx v;have G:=H.bP v hT u;have Q:=v.rel;have S:=ky Q j;have f0:an (hp w1 kb) (0+6+0)=some (bN 1):=by have t:an (hp w1 kb) (0+6+0)=some (bN k.o.1):=S.o0;rw[hk]at t;exact t
 simp only[ac,fV,pn,am,ag,ld_164,f0,S.c1,Int.reduceBEq,zS];refine(c_CrStep N Q G u M X1 OX).mono ?_;rintro _ w2 ⟨_,T2,l,V,W⟩;have a:=l.off kb _ j (SM.un G j u (.inr dC));have U2:=U1.sm G l u (.inr dC);have L2:=L1.gx l;have I:Gx (fK h T o) w T w2 T2:=fK.then (fO hT v) (wkSM l)
 have n:aw c id m k=((eF c m x).1,if(eF c m x).2.done=true/\(eF c m x).2.code≠0 then bO {k with steps:=k.steps+1,mc:= .create (eF c m x).2,point:=(eF c m x).2.point} (bn (eF c m x).2.code)else if(eF c m x).2.done then bO {k with steps:=k.steps+1,mc:= .create (eF c m x).2,point:=(eF c m x).2.point} (0,((eF c m x).2.slot,(eF c m x).2.gen,0,0,0),0,0)else{k with steps:=k.steps+1,mc:= .create (eF c m x).2,point:=(eF c m x).2.point}):=by
  rw[aw,bV (by rw[hb];decide)];simp only[hm]
 generalize hr:eF c m x=r at*;obtain⟨m2,f⟩:=r;have J:=W;obtain⟨y,g,hy⟩:=W;simp only at n V g;have FX:=cr_f l.rel g;have F2:=ky l.rel a;simp only[ae,ac,eM,fa_233_4,ag,F2.c1,FX.point];refine aA (A':=mJ h.wb id b {k with steps:=k.steps+1,mc:= .create f,point:=f.point} hv (some ⟨xb,0,none⟩) p2 p3 p4 p5 p6 p7) l.rel a aE ⟨rfl,rfl⟩ dE (by rw[aM];omega) λK Y p q _ _=>?_;have M3:McR K Y o b h id (some ⟨xb,0,none⟩) p2 p3 p4 p5 p6 p7 (.create f):=qP ⟨xb,rfl,J⟩ a p;have O:=p.off xb _ g (ay g a dC);have Z:=jW U2 a p;have L3:=L2.gx p;have H3:=V.bP p a u;have D:=p.rel;have F3:=ky D q;have d:=cr_f D O;have C:=fK.then I (fO a p)
 have fin:∀(r:bd×jE),aw c id m k=r->∀z s,Gx (fK h T o) w T z s->dG s h c r.1->tW z s o kb h c id r.2->P102_0 z (uc T w o kb h c (aw c id m k).1 id (aw c id m k).2):=by
  rintro r rfl z s h1 h2 h3;apply L102_0_ok;exact⟨rfl,s,h1,h2,h3⟩
 have now:∀(r:jI),aw c id m k=(m2,bO {k with steps:=k.steps+1,mc:= .create f,point:=f.point} r)->∀P,ad [] K P->aa prog 137 [ptr kb,.agg (od r)] P λ_ w'=>P102_0 w' (uc T w o kb h c (aw c id m k).1 id (aw c id m k).2):=λr e P i=>by
  refine mS (k:={k with steps:=k.steps+1,mc:= .create f,point:=f.point}) (D.aF i) H3 u (Z.aF i) (L3.aF i) q r λz s g5 H5 K5=>?_;exact fin _ e z s (fK.then (fK.then C (Gx.bL D i)) g5) H5 K5
 cases A:f.done with
 |false=>
  have B:=d.done;rw[A]at B;rw[bV (by rw[A];simp),bV (by rw[A];decide)]at n;simp only[ae,ac,lT,az,F3.c1,B,zS];exact fin _ n K Y C H3 ⟨b,sb,lb,hv,_,p2,p3,p4,p5,p6,p7,q,Z,L3,M3⟩
 |true=>
  have B:=d.done;rw[A]at B;by_cases E:f.code=0
  ·have fc:=d.code;rw[E]at fc;rw[bV (by rw[E];simp),bU A]at n;simp only[ae,ac,pn,ny,fa_233_6,fa_233_9,lT,az,ag,jd,ld_164,F3.c1,B,fc,d.slot,d.gen,bd_hn2,bd_rsH,zS];exact now _ n _ ((ad.refl _ _).drew)
  ·have qc:(f.code !=0)=true:=bne_iff_ne.2 E;rw[bU ⟨A,E⟩]at n;simp only[ae,ac,pn,fa_233_9,lT,az,jd,ld_164,F3.c1,B,d.code,qc,ku,zS];exact now _ n _ (ad.refl _ _)
end
section
variable{w w0 w1 w2 w':World}{T T1 T2 T':dH}{h:Hm}{c:cx}{m m':bd}{o o' b sb lb q kb wb q4 q5:Nat}{es es':List TypeId}{k:jE}{id:Nat}{hv:Value}{p1 p2 p3 p4 p5 p6 p7:Option Addr}
theorem s_alloc(N:gG c)(R:Rel w T)(H:dG T h c m)(A:o≠0)(M:ee c m)(hT:T kb=some (tU o h.wb id b k hv p1 p2 p3 p4 p5 p6 p7))(U:fN w T o b sb lb h c k.su)(L:SlK w T hv k.holds)(hs:0<=k.steps/\k.steps<=1000000000)(hb:k.busy=true)(hk:k.o.1=2){x:AlV}(hm:k.mc= .alloc x)(X:McR w T o b h id p1 p2 p3 p4 p5 p6 p7 (.alloc x))(O:qS k.su)(B:k.su.st.length+100<=100000)(OX:AlOk c x):
  aa prog 102 [ptr kb] w (uc T w o kb h c (aw c id m k).1 id (aw c id m k).2):=by
 obtain⟨xb,rfl,X⟩:=X;apply F102_ok;have F:=ky R hT;have fb:=F.busy;rw[hb]at fb;have ew:IntKind.i64.wrap (k.steps+1)=k.steps+1:=ap dB dB;rw[F102];simp only[ptr,ae,ac,aV,jN,az,ag,fb,F.steps,aj,ew,zS];refine aA (A':=mJ h.wb id b {k with steps:=k.steps+1} hv p1 (some ⟨xb,0,none⟩) p3 p4 p5 p6 p7) R hT aE ⟨rfl,rfl⟩ dE (by rw[aM];omega) λw1 T1 s j _ _=>?_;have XX:McR w1 T1 o b h id p1 (some ⟨xb,0,none⟩) p3 p4 p5 p6 p7 (.alloc x):=qP ⟨xb,rfl,X⟩ hT s;obtain⟨_,eq,X1⟩:=XX;cases eq;have U1:=jW U hT s;have L1:=L.gx s;have W:=H.bP s hT A;have Y:=s.rel;have Z:=ky Y j;have f0:an (hp w1 kb) (0+6+0)=some (bN 2):=by have t:an (hp w1 kb) (0+6+0)=some (bN k.o.1):=Z.o0;rw[hk]at t;exact t
 simp only[ac,fV,fa_172_12,am,ag,ld_165,f0,Z.c2,Int.reduceBEq,zS];have fin:∀(r:bd×jE),aw c id m k=r->∀u l,Gx (fK h T o) w T u l->dG l h c r.1->tW u l o kb h c id r.2->P102_0 u (uc T w o kb h c (aw c id m k).1 id (aw c id m k).2):=by
  rintro r rfl u l h1 h2 h3;apply L102_0_ok;exact⟨rfl,l,h1,h2,h3⟩
 refine(c_AlStep N Y W A M U1 O B X1 OX).mono ?_;rintro _ w2 ⟨_,T2,v,H2,U2,X2⟩;have a:=v.off kb _ j (SM.un W j A (.inr dC));have L2:=L1.gx v;have K:Gx (fK h T o) w T w2 T2:=fK.then (fO hT s) (wkSM v)
 have C:aw c id m k=((ek c m k.su x).1,if(ek c m k.su x).2.2.done then bO {k with steps:=k.steps+1,su:=(ek c m k.su x).2.1,mc:= .alloc (ek c m k.su x).2.2,point:=(ek c m k.su x).2.2.point} ((ek c m k.su x).2.2.code,(ek c m k.su x).2.2.h,0,0)else{k with steps:=k.steps+1,su:=(ek c m k.su x).2.1,mc:= .alloc (ek c m k.su x).2.2,point:=(ek c m k.su x).2.2.point}):=by
  rw[aw,bV (by rw[hb];decide)];simp only[hm]
 generalize hr:ek c m k.su x=r at*;obtain⟨m2,E,d⟩:=r;have P:=X2;obtain⟨y,z,f,_⟩:=X2;simp only at C H2 U2 f;have F2:=ky v.rel a;have Q:hp w2 xb=some (.cells (qT b d (.pointer y) (.pointer z)) 237):=v.rel.kK f;have pt:an (hp w2 xb) (0+6)=some (bN d.point):=by rw[Q];rfl
 simp only[ae,ac,eM,fa_237_6,ag,F2.c2,pt];refine aA (A':=mJ h.wb id b {k with steps:=k.steps+1,su:=E,mc:= .alloc d,point:=d.point} hv p1 (some ⟨xb,0,none⟩) p3 p4 p5 p6 p7) v.rel a aE ⟨rfl,rfl⟩ dE (by rw[aM];omega) λi T3 n p _ _=>?_;have M3:McR i T3 o b h id p1 (some ⟨xb,0,none⟩) p3 p4 p5 p6 p7 (.alloc d):=qP ⟨xb,rfl,P⟩ a n;have S:=n.off xb _ f (ay f a dC);have U3:=jW (k:={k with su:=E}) U2 a n;have L3:=L2.gx n;have H3:=H2.bP n a A;have G:=n.rel;have F3:=ky G p;have D:=fK.then K (fO a n)
 have now:∀(r:jI),aw c id m k=(m2,bO {k with steps:=k.steps+1,su:=E,mc:= .alloc d,point:=d.point} r)->∀V,ad [] i V->aa prog 137 [ptr kb,.agg (od r)] V λ_ w'=>P102_0 w' (uc T w o kb h c (aw c id m k).1 id (aw c id m k).2):=λr e V g=>by
  refine mS (k:={k with steps:=k.steps+1,su:=E,mc:= .alloc d,point:=d.point}) (G.aF g) H3 A (U3.aF g) (L3.aF g) p r λu l g5 H5 K5=>?_;exact fin _ e u l (fK.then (fK.then D (Gx.bL G g)) g5) H5 K5
 have q:hp i xb=some (.cells (qT b d (.pointer y) (.pointer z)) 237):=G.kK S;have I:an (hp i xb) (0+20)=some (.bool d.done):=by rw[q];rfl
 have fc:an (hp i xb) (0+13)=some (bN d.code):=by rw[q];rfl
 have fh:gi prog 32 (.pointer (some ⟨xb,0+14,none⟩)) i.drew=some (.agg (tp d.h)):=by rw[ld_32,show hp i.drew xb=_ from q];rfl
 cases J:d.done with
 |false=>
  rw[J]at I;rw[bV (by rw[J];decide)]at C;simp only[ae,ac,pw,az,F3.c2,I,zS];exact fin _ C i T3 D H3 ⟨b,sb,lb,hv,p1,_,p3,p4,p5,p6,p7,p,U3,L3,M3⟩
 |true=>
  rw[J]at I;rw[bU J]at C;simp only[ae,ac,sH,fa_237_14,pw,az,jd,F3.c2,I,fc,fh,bd_rs01,zS];exact now _ C _ ((ad.refl _ _).drew)
theorem s_free(N:gG c)(R:Rel w T)(H:dG T h c m)(y:o≠0)(M:ee c m)(hT:T kb=some (tU o h.wb id b k hv p1 p2 p3 p4 p5 p6 p7))(U:fN w T o b sb lb h c k.su)(L:SlK w T hv k.holds)(hs:0<=k.steps/\k.steps<=1000000000)(hb:k.busy=true)(hk:k.o.1=10){x:FrV}(hm:k.mc= .free x)(X:McR w T o b h id p1 p2 p3 p4 p5 p6 p7 (.free x))(O:qS k.su)(OX:FrOk c x):
  aa prog 102 [ptr kb] w (uc T w o kb h c (aw c id m k).1 id (aw c id m k).2):=by
 obtain⟨xb,rfl,X⟩:=X;apply F102_ok;have F:=ky R hT;have fb:=F.busy;rw[hb]at fb;have ew:IntKind.i64.wrap (k.steps+1)=k.steps+1:=ap dB dB;rw[F102];simp only[ptr,ae,ac,aV,jN,az,ag,fb,F.steps,aj,ew,zS];refine aA (A':=mJ h.wb id b {k with steps:=k.steps+1} hv p1 p2 p3 p4 p5 (some ⟨xb,0,none⟩) p7) R hT aE ⟨rfl,rfl⟩ dE (by rw[aM];omega) λw1 T1 s i _ _=>?_;have XX:McR w1 T1 o b h id p1 p2 p3 p4 p5 (some ⟨xb,0,none⟩) p7 (.free x):=qP ⟨xb,rfl,X⟩ hT s;obtain⟨_,eq,X1⟩:=XX;cases eq;have U1:=jW U hT s;have L1:=L.gx s;have Y:=H.bP s hT y;have Z:=s.rel;have F1:=ky Z i;have f0:an (hp w1 kb) (0+6+0)=some (bN 10):=by have t:an (hp w1 kb) (0+6+0)=some (bN k.o.1):=F1.o0;rw[hk]at t;exact t
 simp only[ac,fV,fa_172_16,am,ag,ld_169,f0,F1.c6,Int.reduceBEq,zS];have fin:∀(r:bd×jE),aw c id m k=r->∀u j,Gx (fK h T o) w T u j->dG j h c r.1->tW u j o kb h c id r.2->P102_0 u (uc T w o kb h c (aw c id m k).1 id (aw c id m k).2):=by
  rintro r rfl u j h1 h2 h3;apply L102_0_ok;exact⟨rfl,j,h1,h2,h3⟩
 refine(c_FrStep N Z Y y M U1 O X1 OX).mono ?_;rintro _ w2 ⟨_,T2,l,H2,U2,X2⟩;have d:=l.off kb _ i (SM.un Y i y (.inr dC));have L2:=L1.gx l;have J:Gx (fK h T o) w T w2 T2:=fK.then (fO hT s) (wkSM l)
 have z:aw c id m k=((et c m k.su x).1,if(et c m k.su x).2.2.done then bO {k with steps:=k.steps+1,su:=(et c m k.su x).2.1,mc:= .free (et c m k.su x).2.2,point:=(et c m k.su x).2.2.point,back:=(et c m k.su x).2.2.back} (bn (et c m k.su x).2.2.code)else{k with steps:=k.steps+1,su:=(et c m k.su x).2.1,mc:= .free (et c m k.su x).2.2,point:=(et c m k.su x).2.2.point,back:=(et c m k.su x).2.2.back}):=by
  rw[aw,bV (by rw[hb];decide)];simp only[hm]
 generalize hr:et c m k.su x=r at*;obtain⟨m2,A,a⟩:=r;have K:=X2;obtain⟨eb,y1,y2,y3,f,_⟩:=X2;simp only at z H2 U2 f;have F2:=ky l.rel d;have B:hp w2 xb=some (.cells (frA b a (ptr eb) (.pointer y1) (.pointer y2) (.pointer y3)) 243):=l.rel.kK f;have pt:an (hp w2 xb) (0+3)=some (bN a.point):=by rw[B];rfl
 have bt:an (hp w2 xb) (0+4)=some (bN a.back):=by rw[B];rfl
 have cd:=(ad.refl [] w2).drew;simp only[ae,ac,eM,fa_243_3,fa_243_4,ag,F2.c6,pt,bt,zS];refine aA (A':=mJ h.wb id b {k with steps:=k.steps+1,su:=A,mc:= .free a,point:=a.point} hv p1 p2 p3 p4 p5 (some ⟨xb,0,none⟩) p7) (l.rel.aF cd) d aE ⟨rfl,rfl⟩ dE (by rw[aM];omega) λwz Tz gz P _ _=>?_;try simp only[ac,fa_172_9]
 refine aA (A':=mJ h.wb id b {k with steps:=k.steps+1,su:=A,mc:= .free a,point:=a.point,back:=a.back} hv p1 p2 p3 p4 p5 (some ⟨xb,0,none⟩) p7) gz.rel P aE ⟨rfl,rfl⟩ dE (by rw[aM];omega) λv T3 Q n _ _=>?_;have p:=(Gx.bL (S:=λq=>q=kb) l.rel cd).trans (gz.trans Q);have M3:McR v T3 o b h id p1 p2 p3 p4 p5 (some ⟨xb,0,none⟩) p7 (.free a):=qP ⟨xb,rfl,K⟩ d p;have V:=p.off xb _ f (ay f d dC);have U3:=jW (k:={k with su:=A}) U2 d p;have L3:=L2.gx p;have H3:=H2.bP p d y;have E:=p.rel;have F3:=ky E n;have C:=fK.then J (fO d p)
 have now:∀(r:jI),aw c id m k=(m2,bO {k with steps:=k.steps+1,su:=A,mc:= .free a,point:=a.point,back:=a.back} r)->∀W,ad [] v W->aa prog 137 [ptr kb,.agg (od r)] W λ_ w'=>P102_0 w' (uc T w o kb h c (aw c id m k).1 id (aw c id m k).2):=λr e W g=>by
  refine mS (k:={k with steps:=k.steps+1,su:=A,mc:= .free a,point:=a.point,back:=a.back}) (E.aF g) H3 y (U3.aF g) (L3.aF g) n r λu j g5 H5 K5=>?_;exact fin _ e u j (fK.then (fK.then C (Gx.bL E g)) g5) H5 K5
 have D:hp v xb=some (.cells (frA b a (ptr eb) (.pointer y1) (.pointer y2) (.pointer y3)) 243):=E.kK V;have G:an (hp v xb) (0+11)=some (.bool a.done):=by rw[D];rfl
 have fc:an (hp v xb) (0+10)=some (bN a.code):=by rw[D];rfl
 cases I:a.done with
 |false=>
  rw[I]at G;rw[bV (by rw[I];decide)]at z;simp only[ae,ac,sI,az,F3.c6,G,zS];exact fin _ z v T3 C H3 ⟨b,sb,lb,hv,p1,p2,p3,p4,p5,_,p7,n,U3,L3,M3⟩
 |true=>
  rw[I]at G;rw[bU I]at z;simp only[ae,ac,fa_243_10,sI,az,jd,F3.c6,G,fc,ku,zS];exact now _ z _ (ad.refl _ _)
theorem s_collect(N:gG c)(R:Rel w T)(H:dG T h c m)(s:o≠0)(M:ee c m)(hT:T kb=some (tU o h.wb id b k hv p1 p2 p3 p4 p5 p6 p7))(U:fN w T o b sb lb h c k.su)(L:SlK w T hv k.holds)(hs:0<=k.steps/\k.steps<=1000000000)(hb:k.busy=true)(hk:k.o.1=11){x:CoV}(hm:k.mc= .collect x)(X:McR w T o b h id p1 p2 p3 p4 p5 p6 p7 (.collect x))(O:qS k.su)(G:(fI k.su (fE (cf m 2))).st.length<=100000)(OX:CoOk c x):
  aa prog 102 [ptr kb] w (uc T w o kb h c (aw c id m k).1 id (aw c id m k).2):=by
 obtain⟨xb,rfl,X⟩:=X;apply F102_ok;have F:=ky R hT;have fb:=F.busy;rw[hb]at fb;have ew:IntKind.i64.wrap (k.steps+1)=k.steps+1:=ap dB dB;rw[F102];simp only[ptr,ae,ac,aV,jN,az,ag,fb,F.steps,aj,ew,zS];refine aA (A':=mJ h.wb id b {k with steps:=k.steps+1} hv p1 p2 p3 p4 p5 p6 (some ⟨xb,0,none⟩)) R hT aE ⟨rfl,rfl⟩ dE (by rw[aM];omega) λw1 T1 p f _ _=>?_;have XX:McR w1 T1 o b h id p1 p2 p3 p4 p5 p6 (some ⟨xb,0,none⟩) (.collect x):=qP ⟨xb,rfl,X⟩ hT p;obtain⟨_,eq,X1⟩:=XX;cases eq;have U1:=jW U hT p;have L1:=L.gx p;have S:=H.bP p hT s;have V:=p.rel;have W:=ky V f;have f0:an (hp w1 kb) (0+6+0)=some (bN 11):=by have t:an (hp w1 kb) (0+6+0)=some (bN k.o.1):=W.o0;rw[hk]at t;exact t
 simp only[ac,fV,fa_172_17,am,ag,ld_170,f0,W.c7,Int.reduceBEq,zS];have fin:∀(r:bd×jE),aw c id m k=r->∀q g,Gx (fK h T o) w T q g->dG g h c r.1->tW q g o kb h c id r.2->P102_0 q (uc T w o kb h c (aw c id m k).1 id (aw c id m k).2):=by
  rintro r rfl q g h1 h2 h3;apply L102_0_ok;exact⟨rfl,g,h1,h2,h3⟩
 refine(c_CoStep N V S s M U1 O G X1 OX).mono ?_;rintro _ w2 ⟨_,T2,u,Y,Z,X2⟩;have a:=u.off kb _ f (SM.un S f s (.inr dC));have L2:=L1.gx u;have I:Gx (fK h T o) w T w2 T2:=fK.then (fO hT p) (wkSM u)
 have v:aw c id m k=((fj c m k.su x).1,if(fj c m k.su x).2.2.done then bO {k with steps:=k.steps+1,su:=(fj c m k.su x).2.1,mc:= .collect (fj c m k.su x).2.2,point:=1} lR else{k with steps:=k.steps+1,su:=(fj c m k.su x).2.1,mc:= .collect (fj c m k.su x).2.2,point:=1}):=by
  rw[aw,bV (by rw[hb];decide)];simp only[hm]
 generalize hr:fj c m k.su x=r at*;obtain⟨m2,B,i⟩:=r;have J:=X2;obtain⟨ab,z,j,_⟩:=X2;simp only at v Y Z j;have F2:=ky u.rel a;try simp only[ac,eM]
 refine aA (A':=mJ h.wb id b {k with steps:=k.steps+1,su:=B,mc:= .collect i,point:=1} hv p1 p2 p3 p4 p5 p6 (some ⟨xb,0,none⟩)) u.rel a aE ⟨rfl,rfl⟩ dE (by rw[aM];omega) λy T3 l n _ _=>?_;have M3:McR y T3 o b h id p1 p2 p3 p4 p5 p6 (some ⟨xb,0,none⟩) (.collect i):=qP ⟨xb,rfl,J⟩ a l;have K:=l.off xb _ j (ay j a dC);have U3:=jW (k:={k with su:=B}) Z a l;have L3:=L2.gx l;have H3:=Y.bP l a s;have C:=l.rel;have F3:=ky C n;have A:=fK.then I (fO a l)
 have now:∀(r:jI),aw c id m k=(m2,bO {k with steps:=k.steps+1,su:=B,mc:= .collect i,point:=1} r)->∀P,ad [] y P->aa prog 137 [ptr kb,.agg (od r)] P λ_ w'=>P102_0 w' (uc T w o kb h c (aw c id m k).1 id (aw c id m k).2):=λr e P d=>by
  refine mS (k:={k with steps:=k.steps+1,su:=B,mc:= .collect i,point:=1}) (C.aF d) H3 s (U3.aF d) (L3.aF d) n r λq g g5 H5 K5=>?_;exact fin _ e q g (fK.then (fK.then A (Gx.bL C d)) g5) H5 K5
 have Q:hp y xb=some (.cells (coA b i (ptr ab) (.pointer z)) 246):=C.kK K;have D:an (hp y xb) (0+5)=some (.bool i.done):=by rw[Q];rfl
 cases E:i.done with
 |false=>
  rw[E]at D;rw[bV (by rw[E];decide)]at v;simp only[ae,ac,px,az,F3.c7,D,zS];exact fin _ v y T3 A H3 ⟨b,sb,lb,hv,p1,p2,p3,p4,p5,p6,_,n,U3,L3,M3⟩
 |true=>
  rw[E]at D;rw[bU E]at v;simp only[ae,ac,px,az,F3.c7,D,bd_rs_,zS];exact now _ v _ (ad.refl _ _)
end
end Go.Proofs.YtnpflajdbchghaaGreat
