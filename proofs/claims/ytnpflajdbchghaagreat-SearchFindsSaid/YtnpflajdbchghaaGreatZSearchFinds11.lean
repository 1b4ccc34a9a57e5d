/- Parts of the proof of SearchFinds, one behind the other. Conditions: none. -/
import Derived.Test.YtnpflajdbchghaaGreatZSearchFinds10
set_option linter.unusedSimpArgs false
set_option linter.unusedVariables false
set_option maxHeartbeats 4000000
set_option maxRecDepth 100000
noncomputable section
namespace Go.Proofs.YtnpflajdbchghaaGreat
open Tryz(f102 f103 f26 f27 f28 f29 f55 f57 f58 f95 f98 func26 func57 prog)
open Go Ev Go.RowKit
def oz(s a:dR):Bool:=decide (a.wk=s.op.2.1)&&(decide (a.ix=s.op.2.2.1)&&(decide (a.op.1=1\/a.op.1=2)&&(decide (a.re.1=0)&&ahead a s)))
def hOf(l:List dR)(s:dR):eF:=(l.find? (oz s)).elim kY λa=>a.re.2.1
def bO(l:List dR)(s:dR):eF:=if gH s.op.1=0 then kY else hOf l s
theorem find_drop{l:List dR}{p:dR->Bool}{k:Nat}(a:k<l.length)(h:l.find? p=(l.drop k).find? p)(b:p l[k]=false):l.find? p=(l.drop (k+1)).find? p:=by
 rw[h,List.drop_eq_getElem_cons a,List.find?_cons,b]
theorem find_at{l:List dR}{p:dR->Bool}{k:Nat}(a:k<l.length)(h:l.find? p=(l.drop k).find? p)(b:p l[k]=true):l.find? p=some l[k]:=by
 rw[h,List.drop_eq_getElem_cons a,List.find?_cons,b]
theorem find_end{l:List dR}{p:dR->Bool}{k:Nat}(a:k=l.length)(h:l.find? p=(l.drop k).find? p):l.find? p=none:=by
 rw[h,a,List.drop_length];rfl
theorem rm{w:World}{b:Nat}{a:dR}{e:TypeId}(h:hp w b=some (.cells (jV a) e))(k:Nat):ao (hp w b) k=(jV a)[k]? :=by rw[h,aN]
theorem sp_hn{w:World}{b:Nat}{a:dR}{e:TypeId}(h:hp w b=some (.cells (jV a) e)):fR prog 32 (.pointer (some ⟨b,0+12+1,none⟩)) w=some (.agg (bB a.re.2.1).toArray):=by
 rw[ld_32,h];rfl
section
variable{l:List dR}{A:Option Addr}{c:Nat}{W:World}
theorem l_oHandle(hl:l.length<=1000000){i m E:Nat}(hi:i<l.length)(h4:W.heap.size<=m):∀(d k:Nat) (w:World),ed w A (l.flatMap ji)->hp w m=some (.cells (bB kY).toArray 32)->hp w E=some (.cells (dC l[i].op).toArray 37)->ad [] W w->
  k+d=l.length->l.find? (oz l[i])=(l.drop k).find? (oz l[i])->
  P36_0 (.slice A l.length c) (bS i) (bU m) (bU E) (.slice A l.length c) (bS l.length) (bS k) w λv w'=>v= .agg (bB (hOf l l[i])).toArray/\ad [] W w':=by
 intro d;induction d with
 |zero=>
  intro k w y p z R hk O;apply L36_0_ok;have S:hOf l l[i]=kY:=by rw[hOf,find_end dy O];rfl
  have:¬((k:Int)<l.length):=dy;simp only[L36_0,zS,this,bdh_,st_hn p rfl];have q:hp (put w m (bB kY).toArray 32) m=some (.cells (bB kY).toArray 32):=by rw[bf,bX rfl,bX (az p)]
  simp only[jh q,ac];exact⟨by rw[S],R.put (.inr h4) _ _⟩
 |succ d ih=>
  intro k w y p z R hk O;apply L36_0_ok;have T:(k:Int)<l.length:=dy;have t:k<l.length:=dy;obtain⟨b,o,q1,q2⟩:=hJ (c:=c) (j:= .i64) (i:=k) y t;obtain⟨b',o',r1,U⟩:=hJ (c:=c) (j:= .i64) (i:=i) y hi;simp only[L36_0,zS,T,q1,q2.ld,al_39];rw[st_39 (by rfl) (by rfl) (by rw[af,bX rfl];rfl) (by rw[af,bX rfl];rfl),af,bX rfl];simp only[ar];generalize u:put (w.alloc _) w.heap.size (jV l[k]) 39=w1;have e:ad [] w w1:=by rw[<- u];exact((ad.refl _ _).alloc _).put (.inr (cy _)) _ _
  have B:hp w1 w.heap.size=some (.cells (jV l[k]) 39):=by rw[<- u,bf,bX rfl,bX (by simp)]
  clear u;generalize w.heap.size=g at*;have p:=e.at p (by simp);have z:=e.at z (by simp);have U:=U.an e;have y:=y.an e.below;have F:=R.trans e;generalize hs:l[i]=s at*;generalize V:l[k]=a at*;have f0:ao (hp w1 g) (0+0)=some (bS a.wk):=rm B 0;have f1:ao (hp w1 g) (0+1)=some (bS a.ix):=rm B 1;have X:ao (hp w1 g) (0+2+0)=some (bS a.op.1):=rm B 2;have G:ao (hp w1 g) (0+12+0)=some (bS a.re.1):=rm B 12;have H:ao (hp w1 E) (0+1)=some (bS s.op.2.1):=by rw[z,aN];rfl
  have P:ao (hp w1 E) (0+2)=some (bS s.op.2.2.1):=by rw[z,aN];rfl
  have next:oz s a=false->∀w2,ad [] w1 w2->P36_0 (.slice A l.length c) (bS i) (bU m) (bU E) (.slice A l.length c) (bS l.length) (bS ((k:Int)+1)) w2 λv w'=>v= .agg (bB (hOf l s)).toArray/\ad [] W w':=λhn w2 f=>
   ih (k+1) w2 (y.an f.below) (f.at p (by simp)) (f.at z (by simp)) (F.trans f) dy (find_drop t O (by rw[V];exact hn))
  have I:=ap (n:=(k:Int)+1) dy dy;have C:ad [] w1 w1.drew:=(ad.refl _ _).drew;by_cases x:a.wk=s.op.2.1
  case neg=>
   simp only[zS,ic,ky,iL,iM,ag,f0,H,bn x,aj,I];exact next (by simp[oz,x]) _ C
  by_cases D:a.ix=s.op.2.2.1
  case neg=>
   simp only[zS,ic,ky,iL,iM,ag,f0,f1,H,P,x,bn D,aj,I];exact next (by simp[oz,D]) _ C
  have k1:∀r:Bool,(decide (a.op.1=1\/a.op.1=2)=r)->(r=false->oz s a=false):=λr h hr=>by simp only[oz,h,hr,Bool.false_and,Bool.and_false]
  have step:∀r:Bool,(a.op.1==1)=r->(r=true\/(a.op.1==2)=true\/((a.op.1==2)=false/\r=false))->True:=λ_ _ _=>trivial;by_cases e3:a.op.1=1\/a.op.1=2
  case neg=>
   have J:¬a.op.1=1:=λh=>e3 (.inl h);have K:¬a.op.1=2:=λh=>e3 (.inr h);simp only[zS,ic,ky,jf,am,iL,iM,ag,f0,f1,X,H,P,x,D,bn J,bn K,aj,I];exact next (by simp[oz,J,K]) _ C
  by_cases Q:a.re.1=0
  case neg=>
   rcases e3 with e3|e3
   all_goals
    simp only[zS,ic,ky,jf,jg,am,iL,iM,mz,ag,jy,f0,f1,X,G,H,P,x,D,e3,bn Q,aj,I,show((2:Int)==1)=false from rfl];exact next (by simp[oz,Q]) _ C
  have Y:At w1.drew g 0 a:=pj B;have Z:=U.an C;rcases e3 with e3|e3
  all_goals
   simp only[zS,ic,ky,jf,jg,am,iL,iM,mz,ag,jy,f0,f1,X,G,H,P,x,D,e3,Q,show((2:Int)==1)=false from rfl,Y.ld,r1,Z.ld];refine(c_Ahead a s w1.drew).mono ?_;rintro _ w2 ⟨rfl,f⟩;have f:=C.trans f;cases L:ahead a s with
   |false=>
    simp only[zS,aj,I];exact next (by simp[oz,L]) w2 f
   |true=>
    have a7:oz s a=true:=by simp[oz,x,D,e3,Q,L]
    have a8:=f.at B (by simp);have M:=f.at p (by simp);have q:hp (put w2 m (bB a.re.2.1).toArray 32) m=some (.cells (bB a.re.2.1).toArray 32):=by rw[bf,bX rfl,bX (az M)]
    simp only[zS,lh,sp_hn a8,st_hn M rfl,jh q];have S:hOf l s=a.re.2.1:=by rw[hOf,find_at t O (by rw[V];exact a7),V];rfl
    exact⟨by rw[S],(F.trans f).put (.inr h4) _ _⟩
theorem l_refHandle(hl:l.length<=1000000){i q:Nat}(hi:i<l.length)(Z:W.heap.size<=q):∀(d k:Nat) (w:World),ed w A (l.flatMap ji)->hp w q=some (.cells (bB kY).toArray 32)->ad [] W w->
  k+d=l.length->l.find? (oz l[i])=(l.drop k).find? (oz l[i])->
  P52_0 (.slice A l.length c) (bS i) (bU q) (bS k) w λv w'=>v= .agg (bB (hOf l l[i])).toArray/\ad [] W w':=by
 intro d;induction d with
 |zero=>
  intro k w z r P hk K;apply L52_0_ok;have Q:hOf l l[i]=kY:=by rw[hOf,find_end dy K];rfl
  have:¬((k:Int)<l.length):=dy;simp only[L52_0,ff,zS,this,bdh_,st_hn r rfl];have t:hp (put w q (bB kY).toArray 32) q=some (.cells (bB kY).toArray 32):=by rw[bf,bX rfl,bX (az r)]
  simp only[jh t,ac];exact⟨by rw[Q],P.put (.inr Z) _ _⟩
 |succ d ih=>
  intro k w z r P hk K;apply L52_0_ok;have R:(k:Int)<l.length:=dy;have u:k<l.length:=dy;obtain⟨b,o,q1,q2⟩:=hJ (c:=c) (j:= .i64) (i:=k) z u;obtain⟨b',o',S,B⟩:=hJ (c:=c) (j:= .i64) (i:=i) z hi;simp only[L52_0,ff,zS,R,q1,q2.ld,al_39];rw[st_39 (by rfl) (by rfl) (by rw[af,bX rfl];rfl) (by rw[af,bX rfl];rfl),af,bX rfl];simp only[ar];generalize x:put (w.alloc _) w.heap.size (jV l[k]) 39=w1;have p:ad [] w w1:=by rw[<- x];exact((ad.refl _ _).alloc _).put (.inr (cy _)) _ _
  have L:hp w1 w.heap.size=some (.cells (jV l[k]) 39):=by rw[<- x,bf,bX rfl,bX (by simp)]
  clear x;generalize w.heap.size=g at*;have r:=p.at r (by simp);have B:=B.an p;have z:=z.an p.below;have C:=P.trans p;generalize hs:l[i]=s at*;generalize T:l[k]=a at*;have f0:ao (hp w1 g) (0+0)=some (bS a.wk):=rm L 0;have f1:ao (hp w1 g) (0+1)=some (bS a.ix):=rm L 1;have f2:∀w',hp w' g=some (.cells (jV a) 39)->ao (hp w' g) (0+2+0)=some (bS a.op.1):=λw' h=>rm h 2;have y:∀w',hp w' g=some (.cells (jV a) 39)->ao (hp w' g) (0+12+0)=some (bS a.re.1):=λw' h=>rm h 12;have U:ao (hp w1 b') (o'+2+1)=some (bS s.op.2.1):=B.f 3 dy;have o2:ao (hp w1 b') (o'+2+2)=some (bS s.op.2.2.1):=B.f 4 dy;have next:oz s a=false->∀w2,ad [] w1 w2->P52_0 (.slice A l.length c) (bS i) (bU q) (bS ((k:Int)+1)) w2 λv w'=>v= .agg (bB (hOf l s)).toArray/\ad [] W w':=λhn w2 m=>
   ih (k+1) w2 (z.an m.below) (m.at r (by simp)) (C.trans m) dy (find_drop u K (by rw[T];exact hn))
  have D:=ap (n:=(k:Int)+1) dy dy;have M:ad [] w1 w1.drew:=(ad.refl _ _).drew;by_cases E:a.wk=s.op.2.1
  case neg=>
   simp only[zS,ic,ky,jf,iL,ag,f0,U,S,bn E,aj,D];exact next (by simp[oz,E]) _ M
  by_cases O:a.ix=s.op.2.2.1
  case neg=>
   simp only[zS,ic,ky,jf,iL,iM,ag,f0,f1,U,o2,S,E,bn O,aj,D];exact next (by simp[oz,O]) _ M
  have V:At w1.drew g 0 a:=pj L;have X:=B.an M;simp only[zS,ic,ky,jf,iL,iM,ag,f0,f1,U,o2,S,E,O,V.ld,X.ld];refine(uk a s w1.drew).mono ?_;rintro _ w2 ⟨rfl,m⟩;have m:=M.trans m;have e:=m.at L (by simp);have F:=m.at r (by simp);cases G:ahead a s with
  |false=>
   simp only[zS,aj,D];exact next (by simp[oz,G]) w2 m
  |true=>
  by_cases H:a.re.1=0
  case neg=>
   simp only[zS,jg,mz,jy,y w2 e,bn H,aj,D];exact next (by simp[oz,H]) w2 m
  by_cases e3:a.op.1=1\/a.op.1=2
  case neg=>
   have I:¬a.op.1=1:=λh=>e3 (.inl h);have J:¬a.op.1=2:=λh=>e3 (.inr h);simp only[zS,jg,am,mz,ag,jy,y w2 e,f2 w2 e,H,bn I,bn J,aj,D];exact next (by simp[oz,I,J]) w2 m
  have Y:oz s a=true:=by simp[oz,E,O,e3,H,G]
  have t:hp (put w2 q (bB a.re.2.1).toArray 32) q=some (.cells (bB a.re.2.1).toArray 32):=by rw[bf,bX rfl,bX (az F)]
  have Q:hOf l s=a.re.2.1:=by rw[hOf,find_at u K (by rw[T];exact Y),T];rfl
  rcases e3 with e3|e3
  all_goals
   simp only[zS,jg,am,mz,lh,ag,jy,y w2 e,f2 w2 e,e3,H,show((2:Int)==1)=false from rfl,sp_hn e,st_hn F rfl,jh t];exact⟨by rw[Q],(C.trans m).put (.inr Z) _ _⟩
theorem At.op{w:World}{b o:Nat}{s:dR}(h:At w b o s):ldL (hp w b) (o+2) 6=some (dC s.op):=mI 6 (o+2) (dC s.op) rfl λj u a=>by
 have c:j<6:=(ce.1 a).1;have:=h.f (2+j) dy;rw[Nat.add_assoc,this];match j,c,a with
 |0,_,a=>exact a
 |1,_,a=>exact a
 |2,_,a=>exact a
 |3,_,a=>exact a
 |4,_,a=>exact a
 |5,_,a=>exact a
theorem At.ldop{w:World}{b o:Nat}{s:dR}(h:At w b o s):fR prog 37 (.pointer (some ⟨b,o+2,none⟩)) w=some (.agg (dC s.op).toArray):=by rw[ld_37,h.op];rfl
theorem z_hn:(#[bS 0,bS 0,bS 0,bS 0,bS 0]:Array Value)=(bB kY).toArray:=rfl
theorem c_oHandle0(t:l.length<=1000000){w:World}(u:ed w A (l.flatMap ji)){i:Nat}(p:i<l.length):aa prog 36 [.slice A l.length c,bS i] w λv w'=>v= .agg (bB (bO l l[i])).toArray/\ad [] w w':=by
 apply F36_ok;simp only[F36,al_32,z_hn];generalize a:w.alloc _=w1;have m:ad [] w w1:=by rw[<- a];exact(ad.refl _ _).alloc _
 have x:hp w1 w.heap.size=some (.cells (bB kY).toArray 32):=by rw[<- a,af,bX rfl]
 have D:w1.heap.size=w.heap.size+1:=by rw[<- a,ah]
 clear a;have g:=u.an m.below;obtain⟨b,o,y,z⟩:=hJ (c:=c) (j:= .i64) (i:=i) g p;simp only[zS,y,jf,z.ldop,al_37];rw[st_37 (by rfl) (by rfl) (by rw[af,bX rfl];rfl) (by rw[af,bX rfl];rfl),af,bX rfl];simp only[ar];generalize e:put (w1.alloc _) w1.heap.size (dC l[i].op).toArray 37=w2;have B:ad [] w1 w2:=by rw[<- e];exact((ad.refl _ _).alloc _).put (.inr (cy _)) _ _
 have q:hp w2 w1.heap.size=some (.cells (dC l[i].op).toArray 37):=by rw[<- e,bf,bX rfl,bX (by simp)]
 clear e;have C:ao (hp w2 w1.heap.size) (0+0)=some (bS l[i].op.1):=by rw[q,aN];rfl
 simp only[zS,am,ag,C];refine(c_opOf l[i].op.1 w2).mono ?_;rintro _ r ⟨rfl,s⟩;have d:=B.trans s;have f:=d.at x (by simp);by_cases k:gH l[i].op.1=0
 ·have n:hp (put r w.heap.size (bB kY).toArray 32) w.heap.size=some (.cells (bB kY).toArray 32):=by rw[bf,bX rfl,bX (az f)]
  simp only[zS,k,bdh_,st_hn f rfl,jh n];exact⟨by rw[bO,bX k],(m.trans d).put (.inr (cy _)) _ _⟩
 ·simp only[zS,bn k,ff];rw[bO,bY k];exact l_oHandle t p (cy _) l.length 0 r (g.an d.below) f (s.at q (by simp)) (m.trans d) dy rfl
def sE(l:List dR)(j:Int):eF:=if j<0\/(l.length:Int)<=j then kY else match l[j.toNat]? with|some s=>bO l s|none=>kY
noncomputable def tP(l:List dR)(j:Int):eF:=if nL l=true then sE l j else kY
theorem nO{l:List dR}{i:Nat}(a:i<l.length):sE l i=bO l l[i]:=by
 rw[sE,bY dy,cq,bZ a]
theorem sG(u:l.length<=1000000){w:World}(x:ed w A (l.flatMap ji))(j:Int):aa prog 52 [.slice A l.length c,bS j] w λv w'=>v= .agg (bB (sE l j)).toArray/\ad [] w w':=by
 apply F52_ok;simp only[F52,al_32,z_hn];generalize a:w.alloc _=w1;have n:ad [] w w1:=by rw[<- a];exact(ad.refl _ _).alloc _
 have r:hp w1 w.heap.size=some (.cells (bB kY).toArray 32):=by rw[<- a,af,bX rfl]
 clear a;have d:=x.an n.below;have no:∀w2,ad [] w1 w2->sE l j=kY->dE prog (Instr.storeAt 32 (bU w.heap.size) (.agg (bB kY).toArray)) w2 λs=>nP (fR prog 32 (bU w.heap.size) s) λy=>y= .agg (bB (sE l j)).toArray/\ad [] w s:=by
  intro w2 t z;have e:=t.at r (by simp);have p:hp (put w2 w.heap.size (bB kY).toArray 32) w.heap.size=some (.cells (bB kY).toArray 32):=by rw[bf,bX rfl,bX (az e)]
  simp only[zS,st_hn e rfl,jh p];exact⟨by rw[z],(n.trans t).put (.inr (cy _)) _ _⟩
 by_cases g:j<0
 ·simp only[zS,g,bdh_];exact no w1 (ad.refl _ _) (by rw[sE,bX (.inl g)])
 by_cases q:(l.length:Int)<=j
 ·simp only[zS,g,q,ff,bdh_];exact no w1 (ad.refl _ _) (by rw[sE,bX (.inr q)])
 obtain⟨i,rfl⟩:=Int.eq_ofNat_of_zero_le (show 0<=j by omega);have k:i<l.length:=dy;obtain⟨b,o,B,C⟩:=hJ (c:=c) (j:= .i64) (i:=i) d k;have D:ao (hp w1 b) (o+2+0)=some (bS l[i].op.1):=C.f 2 dy;simp only[zS,g,q,ff,B,jf,am,ag,D];refine(c_Of l[i].op.1 w1).mono ?_;rintro _ w2 ⟨rfl,E⟩;subst E;by_cases m:gH l[i].op.1=0
 ·simp only[zS,m,bdh_];exact no _ (ad.refl _ _) (by rw[nO k,bO,bX m])
 ·simp only[zS,bn m];rw[nO k,bO,bY m];exact l_refHandle u k (cy _) l.length 0 _ d r n dy rfl
theorem c_oHandle(n:l.length<=1000000){w:World}(r:ed w A (l.flatMap ji))(j:Int):aa prog 16 [.slice A l.length c,bS j] w λv w'=>v= .agg (bB (tP l j)).toArray/\ad [] w w':=by
 apply F16_ok;simp only[F16,al_32,z_hn];generalize a:w.alloc _=w1;have o:ad [] w w1:=by rw[<- a];exact(ad.refl _ _).alloc _
 have s:hp w1 w.heap.size=some (.cells (bB kY).toArray 32):=by rw[<- a,af,bX rfl]
 clear a;have d:=r.an o.below;have no:∀(h:eF) w2,ad [] w1 w2->tP l j=h->dE prog (Instr.storeAt 32 (bU w.heap.size) (.agg (bB h).toArray)) w2 λf=>nP (fR prog 32 (bU w.heap.size) f) λt=>t= .agg (bB (tP l j)).toArray/\ad [] w f:=by
  intro h w2 b u;have e:=b.at s (by simp);have k:hp (put w2 w.heap.size (bB h).toArray 32) w.heap.size=some (.cells (bB h).toArray 32):=by rw[bf,bX rfl,bX (az e)]
  simp only[zS,st_hn e rfl,jh k];exact⟨by rw[u],(o.trans b).put (.inr (cy _)) _ _⟩
 by_cases g:j<0
 ·simp only[zS,g,bdh_];exact no kY w1 (ad.refl _ _) (by unfold tP sE;rw[bX (Or.inl g:j<0\/(l.length:Int)<=j),ite_self])
 by_cases m:(l.length:Int)<=j
 ·simp only[zS,g,m,ff,bdh_];exact no kY w1 (ad.refl _ _) (by unfold tP sE;rw[bX (Or.inr m:j<0\/(l.length:Int)<=j),ite_self])
 obtain⟨i,rfl⟩:=Int.eq_ofNat_of_zero_le (show 0<=j by omega);have p:i<l.length:=dy;simp only[zS,g,m,ff];refine(c_RMay n ⟨A,c,rfl,d⟩).mono ?_;rintro _ w2 ⟨rfl,b⟩;cases q:nL l with
 |false=>
  simp only[zS,bdh_];exact no kY w2 b (by rw[tP,q];rfl)
 |true=>
  simp only[zS];refine(c_oHandle0 n (d.an b.below) p).mono ?_;rintro _ f ⟨rfl,x⟩;exact no _ f (b.trans x) (by rw[tP,bX q,nO p])
end
theorem m6{w:World}{base:Nat}{e:TypeId}{z:Nat}{v:Value}{n:Nat}{xs:List Value}(h:w.ownsRow base e z v n xs){k:Nat}(b:v.ownBlock=some k):base<=k:=by
 rcases h.2 with⟨rfl,_⟩|⟨g,c,d,rfl,a,_⟩
 ·cases b
 ·cases b;exact a
section
variable{W:World}
end
section
variable{w:World}{base n c g:Nat}{X:List EvV}
end
section
variable{W:World}{base n c g:Nat}{Q:Value->World->Prop}
end
section
variable{W w w':World}{base n c g:Nat}{Q:Value->World->Prop}{P S U V M X Y Z:List EvV}{a b e:EvV}
end
section
variable{W w w':World}{base n c g:Nat}{Q:Value->World->Prop}{P S U V M X Y Z:List EvV}{a b e:EvV}
end
section
variable{W w w':World}{base n c g:Nat}{Q:Value->World->Prop}{P S U V M X Y Z:List EvV}{e:EvV}
end
section
variable{W w w':World}{base n c g:Nat}{Q:Value->World->Prop}{P S U V M X Y Z:List EvV}{e:EvV}
end
section
variable{W:World}
end
theorem c_cfMay(c:cP)(w:World):aa prog 54 [.agg (dK c).toArray] w λv w'=>v= .bool (hY c)/\ad [] w w':=by
 apply F54_ok;have b:hp (w.alloc (.cells (dK c).toArray 25)) w.heap.size=some (.cells (dK c).toArray 25):=by rw[af,bX rfl]
 have a:ad [] w (w.alloc (.cells (dK c).toArray 25)):=(ad.refl _ _).alloc _;simp only[F54,ak,au];generalize w.alloc (.cells (dK c).toArray 25)=w0 at*;simp only[zS,eS,ag,b,cf_0];refine(oY _ _ _ w0).step ?_;by_cases e:1<=c.1/\c.1<=64
 ·simp only[cj e,zS,jK,ag,b,cf_1];refine(oY _ _ _ w0).step ?_;by_cases f:1<=c.2.1/\c.2.1<=4096
  ·simp only[cj f,zS,fj,ag,b,cf_2];refine(oY _ _ _ w0).step ?_;by_cases d:8<=c.2.2.1/\c.2.2.1<=1024
   ·have l:c.2.2.1.tmod 8=c.2.2.1%8:=Int.tmod_eq_emod_of_nonneg dy;by_cases g:c.2.2.1%8=0
    ·have m:(c.2.2.1%8==0)=true:=by rw[g];rfl
     simp only[cj d,zS,iJ,ag,b,cf_2,cf_3,kF (show(8:Int)≠0 by decide),l,m];refine(oY _ _ _ w0).step ?_;by_cases i:1<=c.2.2.2.1/\c.2.2.2.1<=4096
     ·simp only[cj i,zS,fa_25_4,ag,b,cf_4];refine(oY _ _ _ w0).step ?_;by_cases j:0<=c.2.2.2.2.1/\c.2.2.2.2.1<=64
      ·simp only[cj j,zS,fa_25_5,ag,b,cf_5];refine(oY _ _ _ w0).step ?_;by_cases k:1<=c.2.2.2.2.2/\c.2.2.2.2.2<=8
       ·simp only[cj k];exact⟨by simp[hY,e,f,d,g,i,j,k],a⟩
       ·simp only[cr k];exact⟨by rw[hY,cr k];simp,a⟩
      ·simp only[cr j,zS];exact⟨by rw[hY,cr j];simp,a⟩
     ·simp only[cr i,zS];exact⟨by rw[hY,cr i];simp,a⟩
    ·simp only[cj d,zS,ag,b,cf_2,kF (show(8:Int)≠0 by decide),l,bn g];exact⟨by rw[hY,cr g];simp,a⟩
   ·simp only[cr d,zS];exact⟨by rw[hY,cr d];simp,a⟩
  ·simp only[cr f,zS];exact⟨by rw[hY,cr f];simp,a⟩
 ·simp only[cr e,zS];exact⟨by rw[hY,cr e];simp,a⟩
theorem ad.ext{w w':World}(h:ad [] w w'):Ext w w':=λa v b=>Below.rL h.below b
theorem callX_step{P:Program}{f:FuncId}{args:List Value}{w:World}{a:Value}(h:aa P f args w λv w'=>v=a/\w'=w){K:Value->World->Prop}(b:K a w):CallX P f args w K:=
 h.mono λv w' ⟨c,d⟩=>by subst c;subst d;exact⟨λ_ _ h=>h,b⟩
theorem mu{P:Program}{f:FuncId}{args:List Value}{w:World}{R:Value->World->Prop}(h:aa P f args w λv w'=>R v w'/\ad [] w w'){K:Value->World->Prop}(b:∀v w',R v w'->ad [] w w'->K v w'):CallX P f args w K:=
 h.mono λv w' ⟨c,a⟩=>⟨ad.ext a,b v w' c a⟩
abbrev numV(v n:Int):Int:=v%n
structure Wn(m:dv)(K:Nat):Prop where
 gk:∀p∈m.slots,0<=p.2/\p.2<=K
 gn:∀r∈m.rgs,0<=r.nm.1/\r.nm.1<m.slots.length/\1<=r.nm.2/\∀p,m.slots[r.nm.1.toNat]? =some p->r.nm.2<=p.2
 nd:(m.rgs.map (·.nm)).Nodup
 lv:∀(i:Nat) (p:iD),m.slots[i]? =some p->p.1=1->∃k,ek m.rgs ((i:Int),p.2)=some k
 cw:m.c.1=m.hands.length
 cs:m.c.2.2.2.1=m.slots.length
theorem Wn.mono{m:dv}{K a:Nat}(h:Wn m K)(b:K<=a):Wn m a:=⟨λp hp=>by have:=h.gk p hp;omega,h.gn,h.nd,h.lv,h.cw,h.cs⟩
theorem wn_new{c:cP}(h:hY c=true)(l:Bool):Wn (oy c l) 0:=by
 obtain⟨a,d,e,f⟩:=may_cf h;refine⟨λp hp=>?_,(λr b=>by cases b),List.nodup_nil,λi p hp a=>?_,by simp only[oy,dt];omega,by simp only[oy,dt];omega⟩
 ·rw[List.eq_of_mem_replicate hp];exact⟨dj _,dj _⟩
 ·have:=List.eq_of_mem_replicate (cD hp);rw[this]at a;cases a
theorem findR_set{L:List eO}{i:Nat}{r r':eO}(a:L[i]? =some r)(b:r'.nm=r.nm)(n:iD):ek (L.set i r') n=ek L n:=by
 unfold ek;have:∀(M:List eO) (i:Nat),M[i]? =some r->(M.set i r').findIdx? (λx=>decide (x.nm=n))=M.findIdx? (λx=>decide (x.nm=n)):=by
  intro M;induction M with
  |nil=>intro i h;simp at h
  |cons x M c=>
   intro i h;cases i with
   |zero=>
    simp at h;subst h;rw[List.set_cons_zero,List.findIdx?_cons,List.findIdx?_cons,b]
   |succ i=>
    rw[List.set_cons_succ,List.findIdx?_cons,List.findIdx?_cons,c i (by simpa using h)]
 exact this L i a
theorem Wn.setRg{m:dv}{K:Nat}(h:Wn m K){i:Nat}{r r':eO}(a:m.rgs[i]? =some r)(b:r'.nm=r.nm):Wn {m with rgs:=m.rgs.set i r'} K:=by
 refine⟨h.gk,λx c=>?_,?_,λj p hp h1=>?_,h.cw,h.cs⟩
 ·rcases List.mem_or_eq_of_mem_set c with h1|h1
  ·exact h.gn x h1
  ·rw[h1,b];exact h.gn r (cD a)
 ·have:(m.rgs.set i r').map (·.nm)=m.rgs.map (·.nm):=by
   rw[List.map_set,b];exact mV (by rw[cM,a];rfl)
  rw[this];exact h.nd
 ·obtain⟨k,d⟩:=h.lv j p hp h1;exact⟨k,by rw[findR_set a b];exact d⟩
theorem Wn.gI{m:dv}{K:Nat}(h:Wn m K)(w:Int)(d:nj):Wn (gI m w d) K:=⟨h.gk,h.gn,h.nd,h.lv,by simp only[Go.Proofs.YtnpflajdbchghaaGreat.gI,cE];exact h.cw,h.cs⟩
theorem Wn.setSl{m:dv}{K:Nat}(h:Wn m K){i:Nat}{p:iD}(hp:m.slots[i]? =some p){v:Int}(hv:v≠1):Wn {m with slots:=m.slots.set i (v,p.2)} K:=by
 have g:=h.gk p (cD hp);refine⟨mem_set h.gk g,λr l=>?_,h.nd,λj q f k=>?_,h.cw,by simp only[cE];exact h.cs⟩
 ·obtain⟨a,b,c,d⟩:=h.gn r l;refine⟨a,by simp only[cE];exact b,c,λq f=>?_⟩;simp only at f;rw[cU]at f;split at f
  ·rename_i e;split at f
   ·cases f;exact d p (by rw[<- e];exact hp)
   ·cases f
  ·exact d q f
 ·simp only at f;rw[cU]at f;split at f
  ·split at f
   ·cases f;exact absurd k hv
   ·cases f
  ·exact h.lv j q f k
theorem Wn.qH{m:dv}{K:Nat}(h:Wn m K)(a:eF)(n x:Int):Wn (dX m a n x) K:=by
 unfold dX;split
 ·split
  ·rename_i r b;exact h.setRg b rfl
  ·exact h
 ·exact h
theorem Wn.does{m:dv}{K:Nat}(h:Wn m K)(w:Int)(o:ez)(a:eF):Wn (fF m w o a) K:=by
 unfold fF;split
 ·exact h
 ·split
  ·exact h.gI _ _
  split
  ·exact h.gI _ _
  split
  ·split
   ·exact h
   ·exact h.gI _ _
  split
  ·exact h.qH _ _ _
  split
  ·exact h.qH _ _ _
  split
  ·split
   ·exact h.qH _ _ _
   ·exact h
  split
  ·split
   ·rename_i p hp;refine h.setSl hp ?_;split<;>decide
   ·exact h
  ·exact h
theorem findR_app_left{L:List eO}{x:eO}{n:iD}{k:Nat}(h:ek L n=some k):ek (L++ [x]) n=some k:=by
 unfold ek at h⊢;rw[List.findIdx?_append,h];rfl
theorem findR_app_new{L:List eO}{x:eO}(h:ek L x.nm=none):ek (L++ [x]) x.nm=some L.length:=by
 unfold ek at h⊢;rw[List.findIdx?_append,h];simp[List.findIdx?_cons]
theorem Wn.fresh{m:dv}{K:Nat}(h:Wn m K){i:Nat}{p:iD}(hp:m.slots[i]? =some p)(r:eO)(f:r∈m.rgs):r.nm≠((i:Int),p.2+1):=λe=>by
 obtain⟨a,b,c,d⟩:=h.gn r f;rw[e]at d;have:=d p (by rw[cq];exact hp);simp only at this;omega
theorem Wn.creates{m:dv}{K:Nat}(h:Wn m K)(w:K<=1000000)(cls:Int)(r:jo):Wn (cx m cls r).2 (K+1):=by
 have i:=h.mono (Nat.le_succ K);unfold cx;split
 ·exact i
 split
 ·rename_i o;split
  ·rename_i p hp;split
   ·exact i
   split
   ·have s:=h.gk p (cD hp);have t:bF p.2=p.2+1:=by rw[bF,bX dy]
    have g:((r.2.1.1.toNat:Nat):Int)=r.2.1.1:=dy;have l:ek m.rgs (r.2.1.1,p.2+1)=none:=uj λj x hx=>by
     have:=h.fresh hp x (cD hx);rw[g]at this;exact this
    rw[t];refine⟨mem_set i.gk (by simp only;omega),λx hx=>?_,?_,λj q f n=>?_,h.cw,by simp only[cE];exact h.cs⟩
    ·simp only[cE];rcases List.mem_append.1 hx with hx|hx
     ·obtain⟨a,b,c,d⟩:=h.gn x hx;refine⟨a,b,c,λq f=>?_⟩;rw[cU]at f;split at f
      ·rename_i e;split at f
       ·cases f;have:=d p (by rw[<- e];exact hp);simp only;omega
       ·cases f
      ·exact d q f
     ·rw[dh.1 hx];refine⟨o.1,o.2,by simp only;omega,λq f=>?_⟩;simp only at f;rw[cU,bX rfl]at f;split at f
      ·cases f;exact dj _
      ·cases f
    ·rw[List.map_append,List.nodup_append];refine⟨h.nd,by simp,λa u b hb=>?_⟩;obtain⟨x,hx,rfl⟩:=List.mem_map.1 u;rw[List.map_cons,List.map_nil,dh]at hb;rw[hb];have:=h.fresh hp x hx;rw[g]at this;exact this
    ·simp only at f;rw[cU]at f;split at f
     ·rename_i e;split at f
      ·cases f;rw[<- e,g];exact⟨_,findR_app_new (x:=⟨(r.2.1.1,p.2+1),cls,0, [], [], []⟩) l⟩
      ·cases f
     ·obtain⟨k,v⟩:=h.lv j q f n;exact⟨k,findR_app_left v⟩
   ·exact i
  ·exact i
 ·exact i
theorem Wn.gives{m:dv}{K:Nat}(h:Wn m K)(n:Int)(a:eF)(r:jo):Wn (gB m n a r).2 (K+1):=by
 have b:=h.mono (Nat.le_succ K);unfold gB;split
 ·exact b
 ·split
  ·exact b
  ·rename_i i _ x c;simp only;split
   ·exact b
   split
   ·exact b
   split
   ·refine b.setRg c ?_;unfold lJ;split<;>rfl
   ·exact b
theorem Wn.lY{m:dv}{K:Nat}(h:Wn m K)(c:K<=1000000)(w:Int)(o:ez)(a:eF)(r:jo):Wn (lY m w o a r).2 (K+1):=by
 have b:=h.mono (Nat.le_succ K);unfold Go.Proofs.YtnpflajdbchghaaGreat.lY;split
 ·exact b
 split
 ·split
  ·simp only;split
   ·exact(h.does _ _ _).mono (Nat.le_succ K)
   ·exact b
  ·exact b
 split
 ·exact h.creates c _ _
 ·exact h.gives _ _ _
section
variable{m:dv}{K:Nat}
theorem findX_rf(m:dv)(n:iD):tN (aP m).rgs n=ek m.rgs n:=by
 unfold tN aP;simp only[List.map_map];rw[show(Prod.fst∘λr:eO=>(r,fO m r.nm))=id from rfl,List.map_id]
theorem rgs_rf(m:dv)(i:Nat):(aP m).rgs[i]? =(m.rgs[i]?).map λr=>(r,fO m r.nm):=by
 simp[aP,cM]
theorem good_rfv(W:Wf m K)(k:Int)(a:eF):goodX (aP m) k a=(if gH k=0 then true else eH m a (gH k)):=by
 have c:gH k=0\/gH k=1\/gH k=2\/gH k=3:=by
  unfold gH;repeat' split
  all_goals omega
 have j:jD (aP m) a=match ek m.rgs (dW a)with
  |none=>(false,false)
  |some i=>(decide (a.2.2.1=0/\a.2.2.2.1=0/\a.2.2.2.2=0),match m.rgs[i]? with|some r=>decide (a∈r.objs)|none=>false):=by
  unfold jD;rw[findX_rf];cases ek m.rgs (dW a)with
  |none=>rfl
  |some i=>
   simp only[rgs_rf];cases m.rgs[i]? <;>rfl
 have g:∀of,eH m a of=match ek m.rgs (dW a)with
  |none=>false
  |some i=>if a.2.2.2.2=0 then decide (a.2.2.1=0)&&(decide (a.2.2.2.1=0)&&decide (of≠2))else decide (of≠1)&&(match m.rgs[i]? with|some r=>decide (a∈r.objs)|none=>false):=λof=>rfl
 unfold goodX;rw[j];cases d:ek m.rgs (dW a)with
 |none=>
  rcases c with h|h|h|h<;>rw[h]<;>simp[g,d]
 |some i=>
  obtain⟨r,e,_⟩:=ox d;have f:a.2.2.2.2=0->a∉r.objs:=λb l=>by
   have:=((W.rg r (cD e)).ob a l).2.2.1;omega
  simp only[e];rcases c with h|h|h|h<;>rw[h]
  ·simp
  ·simp only[if_true,g,d,e];by_cases b:a.2.2.2.2=0
   ·simp[b]
   ·simp[b]
  ·simp only[show¬(2:Int)=1 by decide,show¬(2:Int)=0 by decide,if_true,if_false,g,d,e];by_cases b:a.2.2.2.2=0
   ·rw[bX b,cr (f b)];simp
   ·rw[bY b];simp
  ·simp only[show¬(3:Int)=1 by decide,show¬(3:Int)=2 by decide,show¬(3:Int)=0 by decide,if_true,if_false,g,d,e];by_cases b:a.2.2.2.2=0
   ·rw[bX b,cr (f b)];simp[b]
   ·rw[bY b];simp[b]
theorem rf_spare(m:dv):lM (aP m).state=gy m.slots:=by
 rw[lM,gy];show((m.slots.map (·.1)).filter _).length=_;rw[List.filter_map,List.length_map];rfl
theorem rf_taken(m:dv)(ch:Int):qL (aP m).rgs ch=jC m ch:=by
 unfold qL jC;show((m.rgs.map _).any _)=_;rw[List.any_map];rfl
end
section
variable{W w:World}{g g6 g7 g8 g10:Nat}{x:tL}{m:dv}{F:Fp}{K:Nat}{o:ez}{h:eF}{d:nj}
theorem iR.word(I:iR w g x F){i:Nat}{p:eO×Bool}(V:x.rgs[i]? =some p){k:Nat}{L:List Int}(Z:p.1.words[k]? =some L){j:Nat}{y:Int}(hj:L[j]? =some y):
  ∃b c D E a G,ao (hp w g) (0+9)=some (.slice (some ⟨b,0,none⟩) x.rgs.length c)/\ao (hp w b) (i*8+6)=some (.slice (some ⟨D,0,none⟩) p.1.words.length E)/\ao (hp w D) k=some (.slice (some ⟨a,0,none⟩) L.length G)/\ao (hp w a) j=some (bT y)/\
   ∀z,mX (hp w a) (j+1)=true/\∃F',iR (put w a ((dG (hp w a)).setIfInBounds j (bT z)) (dH (hp w a))) g {x with rgs:=x.rgs.set i ({p.1 with words:=p.1.words.set k (L.set j z)},p.2)} F'/\aO F F' w (put w a ((dG (hp w a)).setIfInBounds j (bT z)) (dH (hp w a))):=by
 have H:(x.rgs.flatMap rrT)[i*8+6]? =some (eG p.1.words):=ba nI x.rgs i p V 6 dy;obtain⟨b,c,v,Fk,hl,a7,a8,W,_,_,J,K,s,_⟩:=dV.row I (fm x) (k:=9) (e':=250) (z:=8) (n:=x.rgs.length) (Qs:=x.rgs.flatMap rrT) rfl (im x.rgs) H;have M:(p.1.words.map jA)[k]? =some (jA L):=by rw[cM,Z];rfl
 obtain⟨D,E,v2,a9,O,_,_,_,t,Q,o,_⟩:=aL.cell K (λP K=>by obtain⟨l,_,rfl⟩:=List.mem_map.1 K;exact ga l) M;have R:((fE L).map hN)[j]? =some (hN (bT y)):=by rw[fE,List.map_map,cM,hj];rfl
 obtain⟨a,G,v3,b1,S,_,_,_,u,A,_,T⟩:=aL.cell Q (fZ (sr L)) R;refine⟨b,c,D,E,a,G,hl,by rw[<- O];exact J,by rw[<- S];exact t,by rw[u,A.1],λz=>?_⟩;obtain⟨ok,X,m,B⟩:=T w ck (hN (bT z)) (bT z) (aO.none A.2 w) (bH _ _) ⟨rfl,λ_ h=>h⟩;have C:((fE L).map hN).set j (hN (bT z))=(fE (L.set j z)).map hN:=by simp[fE,List.map_set]
 rw[C]at m;have q:jA (L.set j z) (put w a ((dG (hp w a)).setIfInBounds j (bT z)) (dH (hp w a))) X v2:=by rw[jA,cE];exact m
 obtain⟨Y,d,r⟩:=o _ X (jA (L.set j z)) B q;rw[<- List.map_set]at d;have f:eG (p.1.words.set k (L.set j z)) (put w a ((dG (hp w a)).setIfInBounds j (bT z)) (dH (hp w a))) Y v:=by rw[eG,cE];exact d
 obtain⟨F3,U,h2⟩:=s _ Y (eG (p.1.words.set k (L.set j z))) r f;rw[gA nI (x':=({p.1 with words:=p.1.words.set k (L.set j z)},p.2)) dy rfl V]at U;have e:qI (x.rgs.set i ({p.1 with words:=p.1.words.set k (L.set j z)},p.2))=aL 250 8 x.rgs.length ((x.rgs.set i ({p.1 with words:=p.1.words.set k (L.set j z)},p.2)).flatMap rrT):=by rw[qI,cE]
 rw[<- e]at U;exact⟨ok,F3,U,h2⟩
theorem ObjAt.rf{i:Nat}{r:eO}{k:Nat}{L:List Int}{j:Nat}{n:Int}(O:ObjAt m h n i r k L j):(aP m).rgs[i]? =some (r,fO m r.nm):=by rw[rgs_rf,O.ri];rfl
theorem oB{n:Int}(a:m.hands[n.toNat]? =some d):(aP m).holds[n.toNat]? =some d.holds/\(aP m).depth[n.toNat]? =some d.depth:=by simp[aP,a]
theorem l_rTouch2{L:World->Prop}(d:ad [] W w){c:Array Value}(a:hp w g10=some (.cells c 35))(e:c.size=8)(b:W.heap.size<=g10):
  P162_2 (bU g10) w λv w'=>v= .agg (fI lV).toArray/\ad [] W w':=by
 apply L162_2_ok;simp only[L162_2,bdr_,ac];rw[hI a e,eW (aq (az a) _ _),ac];exact⟨rfl,d.put (.inr b) _ _⟩
theorem l_rTouch0(i:ad [] W w){n:Array Value}(a:hp w g10=some (.cells n 35))(j:n.size=8)(c:W.heap.size<=g10)(k:hp w g8=some (.cells (dC o).toArray 37))(x:6<=o.1)(y:o.1<=9):
  P162_0 (bU g8) (bU g10) (bT (gX m h o.2.2.2.1)) w λv w'=>v= .agg (fI (eV m o h)).toArray/\ad [] W w':=by
 apply L162_0_ok;have one:∀t:Bool,t=decide (o.1=6\/o.1=8)->P162_1 (bU g8) (bU g10) (bT (gX m h o.2.2.2.1)) (bS o.1) (.bool t) w λv w'=>v= .agg (fI (eV m o h)).toArray/\ad [] W w':=by
  intro t p;apply L162_1_ok;by_cases b:o.1=6\/o.1=8
  ·have d:t=true:=by rw[p];exact cj b
   subst d;have e:eV m o h=(0,kY,0,gX m h o.2.2.2.1):=by rw[eV,bX b]
   have hb:ai prog (Instr.build 35 #[(3,bT (gX m h o.2.2.2.1))])=some (.agg (fI (0,kY,0,gX m h o.2.2.2.1)).toArray):=bd_35_3;simp only[L162_1,zS,hb];rw[hI a j,eW (aq (az a) _ _),ac,e];exact⟨rfl,i.put (.inr c) _ _⟩
  have d:t=false:=by rw[p];exact cr b
  subst d;by_cases g:o.1=9
  ·have r:(o.1==9)=true:=by rw[g];rfl
   by_cases hv:gX m h o.2.2.2.1=o.2.2.2.2.1
   ·have u:(gX m h o.2.2.2.1==o.2.2.2.2.1)=true:=by rw[hv];exact beq_self_eq_true _
    have e:eV m o h=(0,kY,1,0):=by rw[eV,bY b,bX g,bX hv]
    have hb:ai prog (Instr.build 35 #[(2,bS 1)])=some (.agg (fI (0,kY,1,0)).toArray):=bd_35_2;simp only[L162_1,zS,r,fB,bx,k,pR,u,hb];rw[hI a j,eW (aq (az a) _ _),ac,e];exact⟨rfl,i.put (.inr c) _ _⟩
   ·have e:eV m o h=lV:=by rw[eV,bY b,bX g,bY hv];rfl
    simp only[L162_1,zS,r,fB,bx,k,pR,bn hv];rw[e];exact l_rTouch2 (L:=λ_=>True) i a j c
  ·have e:eV m o h=lV:=by rw[eV,bY b,bY g,bY dy]
   simp only[L162_1,zS,bn g];rw[e];exact l_rTouch2 (L:=λ_=>True) i a j c
 by_cases l:o.1=6
 ·have q:(o.1==6)=true:=by rw[l];rfl
  have f:=one true (by rw[l];rfl);simp only[L162_0,zS,am,ag,k,aJ,q];exact f
 ·have f:=one (o.1==8) (by
   by_cases s:o.1=8
   ·rw[s];rfl
   ·rw[bn s];exact(cr dy).symm)
  simp only[L162_0,zS,am,ag,k,aJ,bn l];exact f
def pn(m:dv)(d:nj)(o:ez)(h:eF):jo:=if eN d h=false then bL 4 else if h.2.2.2.2<=o.2.2.2.1 then bL 5 else eV m o h
theorem c_rTouch(I:iR w g (aP m) F)(u:Wf m K)(hK:K<=1000000){n:Int}(n0:0<=n)(hd:m.hands[n.toNat]? =some d)(hk:eH m h 2=true)(o0:0<=o.2.2.2.1)(o6:6<=o.1)(o9:o.1<=9){i:Nat}(hf:ek m.rgs (dW h)=some i):
  aa prog 162 [bU g,bS n,bS i,.agg (dC o).toArray,.agg (bB h).toArray] w λv w'=>v= .agg (fI (pn m d o h)).toArray/\ad [] w w':=by
 apply F162_ok;simp only[F162,ak,au,sn,ah];generalize x:((w.alloc (.cells (dC o).toArray 37)).alloc _).alloc _=w1;have l:ad [] w w1:=by rw[<- x];exact(((ad.refl _ _).alloc _).alloc _).alloc _
 have P:hp w1 w.heap.size=some (.cells (dC o).toArray 37):=by rw[<- x,af,ah,ah,bY dy,af,ah,bY dy,af,bX rfl]
 have H:hp w1 (w.heap.size+1)=some (.cells (bB h).toArray 32):=by rw[<- x,af,ah,ah,bY dy,af,ah,bX rfl]
 have e:hp w1 (w.heap.size+1+1)=some (.cells (fI lV).toArray 35):=by rw[<- x,af,ah,ah,bX rfl];rfl
 clear x;obtain⟨s,gn,r,dd,hh,R⟩:=(I.an l).rd;have e0:(bB h).toArray[0+0]? =some (bS h.1):=rfl;have e1:(bB h).toArray[0+1]? =some (bS h.2.1):=rfl;have e2:(bB h).toArray[0+2]? =some (bS h.2.2.1):=rfl;have e3:(bB h).toArray[0+3]? =some (bS h.2.2.2.1):=rfl;have e4:(bB h).toArray[0+4]? =some (bS h.2.2.2.2):=rfl;have hD:=u.hd d (cD hd);simp only[zS,bG,gR,ag,H,e0,e1];refine(c_rHas R n0 (oB hd).1 dy (dW h)).step ?_;have ht:decide (dW h∈d.holds)=eN d h:=rfl;rw[ht];cases f:eN d h with
 |false=>
  have y:pn m d o h=bL 4:=by rw[pn,bX f]
  simp only[zS,tO];rw[hI e rfl,eW (aq (az e) _ _),ac,y];exact⟨rfl,l.put (.inr dy) _ _⟩
 |true=>
  by_cases J:h.2.2.2.2<=o.2.2.2.1
  ·have y:pn m d o h=bL 5:=by rw[pn,bY (by rw[f];simp),bX J]
   simp only[zS,bm,iK,ag,P,H,mm,e4,J,tO];rw[hI e rfl,eW (aq (az e) _ _),ac,y];exact⟨rfl,l.put (.inr dy) _ _⟩
  have y:pn m d o h=eV m o h:=by rw[pn,bY (by rw[f];simp),bY J]
  rw[y];obtain⟨M,rg,k,L,j,O⟩:=obj_at u hk o0 dy;have S:M=i:=by have:=O.fi;rw[hf]at this;exact(Option.some.inj this).symm
  subst S;have cd:ad [] w1 w1.drew:=(ad.refl _ _).drew;have W1:=u.w1;have W2:=u.w2;have T:∀w2,ad [] w1 w2->∃b c q z t B,ao (hp w2 g) (0+9)=some (.slice (some ⟨b,0,none⟩) (aP m).rgs.length c)/\ao (hp w2 b) (M*8+6)=some (.slice (some ⟨q,0,none⟩) rg.words.length z)/\ao (hp w2 q) k=some (.slice (some ⟨t,0,none⟩) L.length B)/\ao (hp w2 t) j=some (bT (gX m h o.2.2.2.1)):=λw2 B=>by
   obtain⟨b,c,q,z,t,U,p1,p2,p3,p4,_⟩:=(I.an (l.trans B)).word O.rf O.wk O.val;exact⟨b,c,q,z,t,U,p1,p2,p3,p4⟩
  obtain⟨b,c,q,z,t,B,p1,p2,p3,p4⟩:=T w1 (ad.refl _ _);obtain⟨Fr,V⟩:=(R.an cd).rT;obtain⟨b',c',hx,cv,wv,ov,Q⟩:=tM V O.rf;have C:=R.rl;rw[p1,hx]at C;cases C;obtain⟨A,cc,rfl,W⟩:=lI Q.cT;have a7:M<(aP m).rgs.length:=(ce.1 O.rf).1;have X:=ph (b:=b) (p:=0) (n:=(aP m).rgs.length) (c:=c) (j:= .i64) (i:=(M:Int)) dy dy;rw[cq,cV]at X;have a8:=(ce.1 O.wk).1;have D:=ia_97 (b:=q) (p:=0) (n:=rg.words.length) (c:=z) (j:= .i64) (i:=(k:Int)) dy dy;rw[cq,cV,dm]at D;have a9:=O.jl;have b1:=O.wl;have E:=ia_139 (b:=t) (p:=0) (n:=L.length) (c:=B) (j:= .i64) (i:=(j:Int)) dy dy;rw[cq,cV,dm]at E;have Y:rg.chunks.length<=1000000:=cQ (u.rg rg (cD O.ri)).cl hK;have G:=c_rAt (w:=w1.drew) (p:=(rg,fO m rg.nm)) (c:=cc) (wv:=wv) (ov:=ov) W Y h.2.2.1;rw[show nH (rg,fO m rg.nm).1.chunks h.2.2.1=(k:Int)from O.ix]at G;have sz:=l.size;simp only[zS,bm,fy,ib,iK,aS,jx,bv,od,ag,P,H,mm,e2,e3,e4,J,p1,p2,X,ld_rg Q,aj,O.jn,ap (n:=(j:Int)) dy dy];repeat' (with_reducible apply And.intro)
  all_goals
   refine G.mono ?_;rintro _ w3 ⟨rfl,c3⟩;have a:=cd.trans c3;have t1:=bu a p1;have t2:=bu a p2;have t3:=bu a p3;have t4:=bu a p4;have t8:=a.at P (by simp);have t9:=a.at H (by simp);have Z:=a.at e (by simp);simp only[zS,jx,od,jc,bx,t1,t2,t3,t4,t8,t9,mm,e3,X,D,aj,O.jn,ap (n:=(j:Int)) dy dy,E];exact l_rTouch0 (l.trans a) Z rfl dy t8 o6 o9
end
section
variable{W w:World}{g g6 g7 g8 g10:Nat}{m:dv}{F:Fp}{K:Nat}{o:ez}{h:eF}{d:nj}{n:Int}
theorem l_rMust1(x:Int)(c:ad [] W w){a:Array Value}(b:hp w g8=some (.cells a 35))(d:a.size=8)(e:W.heap.size<=g8):
  P107_1 (bU g8) (bS x) w λv w'=>v= .tuple #[.agg (fI (bL x)).toArray,.bool true]/\ad [] W w':=by
 apply L107_1_ok;simp only[L107_1,tO,ac];rw[hI b d,eW (aq (az b) _ _),ac];exact⟨rfl,c.put (.inr e) _ _⟩
theorem refuses_eq(hk:gH o.1=0\/eH m h (gH o.1)=true):cf m d o h=dZ m.c.2.2.1 d (eN d h) (eJ m h) o h.2.2.2.2:=by
 rw[cf,bY];rintro⟨b,a⟩;rcases hk with hk|hk
 ·exact b hk
 ·rw[hk]at a;cases a
theorem must_eq(a:jQ m n o=true)(b:m.hands[n.toNat]? =some d):dI m n o h=if cf m d o h≠0 then(bL (cf m d o h),true)else if o.1=1\/o.1=2 then(lV,false)else(eV m o h,true):=by
 rw[dI,bY (by rw[a];simp),b]
theorem rf_flag(I:iR w g (aP m) F){i:Nat}{r:eO}(e:m.rgs[i]? =some r):∃b c,ao (hp w g) (0+9)=some (.slice (some ⟨b,0,none⟩) (aP m).rgs.length c)/\(∃ f wv ov,RrR w b (i*8) (r,fO m r.nm) f wv ov)/\i<(aP m).rgs.length:=by
 obtain⟨s,j,rv,k,l,R⟩:=I.rd;obtain⟨Fr,a⟩:=R.rT;have d:(aP m).rgs[i]? =some (r,fO m r.nm):=by rw[rgs_rf,e];rfl
 obtain⟨b,c,rfl,Q⟩:=tM a d;exact⟨b,c,R.rl,Q,(ce.1 d).1⟩
theorem nN(r:jo)(b:Bool){w2:World}{P:jo×Bool}{c:Array Value}(d:ad [] W w2)(a:hp w2 g8=some (.cells c 35))(f:c.size=8)(g:W.heap.size<=g8)(e:P=(r,b)):
  dE prog (Instr.storeAt 35 (bU g8) (.agg (fI r).toArray)) w2 λw=>nP (fR prog 35 (bU g8) w) λi=>Value.tuple #[i,.bool b]= .tuple #[.agg (fI P.1).toArray,.bool P.2]/\ad [] W w:=by
 rw[hI a f,eW (aq (az a) _ _),ac,e];exact⟨rfl,d.put (.inr g) _ _⟩
theorem l_rMust0{nn:Nat}(S:ad [] W w)(I:iR w g (aP m) F)(Wm:Wf m K)(hK:K<=1000000)(y:hp w g6=some (.cells (dC o).toArray 37))(h7:hp w g7=some (.cells (bB h).toArray 32)){c8:Array Value}(h8:hp w g8=some (.cells c8 35))(T:c8.size=8)(U:W.heap.size<=g8)
  (hm:jQ m nn o=true) (hd:m.hands[nn]? =some d) (hk:gH o.1=0\/eH m h (gH o.1)=true) {ix:Int} (b7:gH o.1≠0->∃i,ek m.rgs (dW h)=some i/\ix=i):
  P107_0 (bU g) (bS nn) (bU g6) (bU g7) (bU g8) (bS ix) w λv w'=>v= .tuple #[.agg (fI (dI m nn o h).1).toArray,.bool (dI m nn o h).2]/\ad [] W w':=by
 apply L107_0_ok;obtain⟨n0,n1,o0⟩:=may_n hm;obtain⟨d4,d3⟩:=may_k hm;obtain⟨s,gn,rv,dd,hh,R⟩:=I.rd;have cd:ad [] w w.drew:=(ad.refl _ _).drew;have J:m.hands[(nn:Int).toNat]? =some d:=hd;have me:=must_eq (h:=h) hm J;rw[refuses_eq hk]at me;have hD:=Wm.hd d (cD hd);have d5:hp w.drew g6=some (.cells (dC o).toArray 37):=y;have V:hp w.drew g8=some (.cells c8 35):=h8;have a9:ao (hp w g) (0+0+2)=some (bS m.c.2.2.1):=R.c 2 dy;obtain⟨Ad,b8,b9,c1⟩:=lI R.dT;have D:=R.dl;rw[b9]at D;have b4:=(oB J).2;rw[cq]at b4;obtain⟨qd,L,M⟩:=int_at (c:=b8) c1 b4;have cb:∀x,x≠0->dZ m.c.2.2.1 d (eN d h) (eJ m h) o h.2.2.2.2=x->dI m nn o h=(bL x,true):=λx hx e=>by rw[me,e,bX hx]
 have op:dZ m.c.2.2.1 d (eN d h) (eJ m h) o h.2.2.2.2=0->o.1=1\/o.1=2->dI m nn o h=(lV,false):=λe hx=>by rw[me,e,bY (by simp),bX hx]
 have nb:∀r,eV m o h=r->dZ m.c.2.2.1 d (eN d h) (eJ m h) o h.2.2.2.2=0->¬(o.1=1\/o.1=2)->dI m nn o h=(r,true):=λr e1 e2 hx=>by
  rw[me,e2,bY (by simp),bY hx,e1]
 have fin:∀(x:Int),dI m nn o h=(bL x,true)->P107_1 (bU g8) (bS x) w λv w'=>v= .tuple #[.agg (fI (dI m nn o h).1).toArray,.bool (dI m nn o h).2]/\ad [] W w':=λx e=>by
  rw[e];exact l_rMust1 x S h8 T U
 by_cases k1:o.1=1
 ·have q:(o.1==1)=true:=by rw[k1];rfl
  have e:=op (by rw[dZ,bY dy,bY dy,bY dy,bY dy,bY dy,bY dy]) (.inl k1);simp only[L107_0,zS,am,ag,y,aJ,q,bdr_];exact nN lV false S h8 T U e
 have B:gH o.1≠0->∃i r b c,ek m.rgs (dW h)=some i/\ix=(i:Int)/\ao (hp w g) (0+9)=some (.slice (some ⟨b,0,none⟩) (aP m).rgs.length c)/\ai prog (Instr.indexAt 179 (.slice (some ⟨b,0,none⟩) (aP m).rgs.length c) (bS ix))=some (.pointer (some ⟨b,i*8,none⟩))/\
   m.rgs[i]? =some r/\ao (hp w b) (i*8+4)=some (.bool (fO m (dW h)))/\ao (hp w b) (i*8+3)=some (bS r.off):=λX=>by
  obtain⟨i,z,rfl⟩:=b7 X;obtain⟨r,C,c5⟩:=ox z;obtain⟨b,c,hb,⟨cv,wv,ov,Q⟩,d6⟩:=rf_flag I C;have E:=ph (b:=b) (p:=0) (n:=(aP m).rgs.length) (c:=c) (j:= .i64) (i:=(i:Int)) dy dy;rw[cq,cV]at E;exact⟨i,r,b,c,z,rfl,hb,E,C,by rw[<- c5];exact Q.c4,Q.c3⟩
 have Y:fO m (dW h)=true->eJ m h=0:=λu=>by unfold eJ;exact bX u
 have Z:fO m (dW h)=false->eJ m h=3:=λu=>by rw[eJ,bY (by show¬fO m (dW h)=true;rw[u];simp)]
 by_cases k2:o.1=2
 ·have q:(o.1==2)=true:=by rw[k2];rfl
  obtain⟨i,r,b,c,z,rfl,hb,E,C,k,_⟩:=B (by rw[show gH o.1=1 by rw[k2];rfl];decide);have a:dZ m.c.2.2.1 d (eN d h) (eJ m h) o h.2.2.2.2=if o.2.2.2.1<1\/m.c.2.2.1<o.2.2.2.1 then 5 else eJ m h:=by rw[dZ,bX k2]
  by_cases a1:o.2.2.2.1<1
  ·have e:=cb 5 dz (by rw[a,bX (.inl a1)]);simp only[L107_0,zS,am,bm,ag,y,aJ,mm,bn k1,q,a1,tO];exact nN (bL 5) true S.drew V T U e
  by_cases a2:m.c.2.2.1<o.2.2.2.1
  ·have e:=cb 5 dz (by rw[a,bX (.inr a2)]);simp only[L107_0,zS,am,bm,ag,y,aJ,mm,bn k1,q,a1,fM,fj,a9,a2,tO];exact nN (bL 5) true S.drew V T U e
  have b5:dZ m.c.2.2.1 d (eN d h) (eJ m h) o h.2.2.2.2=eJ m h:=by rw[a,bY dy]
  cases u:fO m (dW h)with
  |true=>
   have e:=op (by rw[b5,Y u]) (.inr k2);rw[u]at k;simp only[L107_0,zS,am,bm,ag,y,aJ,mm,bn k1,q,a1,fM,aS,fj,a9,a2,bv,hb,E,jw,aB,k,bdr_];exact nN lV false S.drew V T U e
  |false=>
   have e:=cb 3 dz (by rw[b5,Z u]);rw[u]at k;simp only[L107_0,zS,am,bm,ag,y,aJ,mm,bn k1,q,a1,fM,aS,fj,a9,a2,bv,hb,E,jw,aB,k,tO];exact nN (bL 3) true S.drew V T U e
 have l:¬(o.1=1\/o.1=2):=dy;have d7:(lV:jo)=bL 0:=rfl;by_cases A:o.1=3
 ·have q:(o.1==3)=true:=by rw[A];rfl
  have P:eV m o h=bL 0:=by rw[eV,bY dy,bY dy,bY dy];rfl
  have a:dZ m.c.2.2.1 d (eN d h) (eJ m h) o h.2.2.2.2=if d.depth=15 then 8 else 0:=by rw[dZ,bY k2,bX A]
  by_cases a1:d.depth=15
  ·have e:(d.depth==15)=true:=by rw[a1];rfl
   have f:=fin 8 (cb 8 dz (by rw[a,bX a1]));simp only[L107_0,zS,am,ag,y,aJ,bn k1,bn k2,q,lC,aH,D,L,M,e];exact f
  ·have f:=fin 0 (nb _ P (by rw[a,bY a1]) l);simp only[L107_0,zS,am,ag,y,aJ,bn k1,bn k2,q,lC,aH,D,L,M,bn a1];exact f
 by_cases G:o.1=4
 ·have q:(o.1==4)=true:=by rw[G];rfl
  have P:eV m o h=bL 0:=by rw[eV,bY dy,bY dy,bY dy];rfl
  have a:dZ m.c.2.2.1 d (eN d h) (eJ m h) o h.2.2.2.2=if d.depth=0 then 4 else 0:=by rw[dZ,bY k2,bY A,bX G]
  by_cases a1:d.depth=0
  ·have e:(d.depth==0)=true:=by rw[a1];rfl
   have f:=fin 4 (cb 4 dz (by rw[a,bX a1]));simp only[L107_0,zS,am,ag,y,aJ,bn k1,bn k2,bn A,q,lC,aH,D,L,M,e];exact f
  ·have f:=fin 0 (nb _ P (by rw[a,bY a1]) l);simp only[L107_0,zS,am,ag,y,aJ,bn k1,bn k2,bn A,q,lC,aH,D,L,M,bn a1];exact f
 by_cases O:o.1=5
 ·have q:(o.1==5)=true:=by rw[O];rfl
  have P:eV m o h=bL 0:=by rw[eV,bY dy,bY dy,bY dy];rfl
  have a:dZ m.c.2.2.1 d (eN d h) (eJ m h) o h.2.2.2.2=if d.depth=0 then 4 else if eN d h then 0 else if d.holds.length=8 then 8 else eJ m h:=by rw[dZ,bY k2,bY A,bY G,bX O]
  obtain⟨i,r,b,c,z,rfl,hb,E,C,k,_⟩:=B (by rw[show gH o.1=3 by rw[O];rfl];decide);have e0:(bB h).toArray[0+0]? =some (bS h.1):=rfl;have e1:(bB h).toArray[0+1]? =some (bS h.2.1):=rfl;by_cases a1:d.depth=0
  ·have e:(d.depth==0)=true:=by rw[a1];rfl
   have f:=fin 4 (cb 4 dz (by rw[a,bX a1]));simp only[L107_0,zS,am,ag,y,aJ,bn k1,bn k2,bn A,bn G,q,lC,aH,D,L,M,e];exact f
  rw[bY a1]at a;simp only[L107_0,zS,am,ag,y,aJ,bn k1,bn k2,bn A,bn G,q,lC,aH,D,L,M,bn a1,bG,gR,h7,e0,e1];refine(c_rHas R n0 (oB J).1 dy (dW h)).step ?_;rw[show decide (dW h∈d.holds)=eN d h from rfl];cases hv:eN d h with
  |true=>
   have f:=fin 0 (nb _ P (by rw[a,hv];rfl) l);simp only[zS];exact f
  |false=>
   rw[bY (by rw[hv];simp)]at a;obtain⟨Fh,c6⟩:=R.hT;obtain⟨bh,ch,vh,rfl,b3,c7⟩:=hold_at c6 (oB J).1;obtain⟨Ah,d8,rfl,_⟩:=keys_sh c7;have d9:=(ce.1 (oB J).1).1;have a7:=ia_180 (b:=bh) (p:=0) (n:=(aP m).holds.length) (c:=ch) (j:= .i64) (i:=(nn:Int)) dy dy;rw[cV,dm]at a7;by_cases a8:d.holds.length=8
   ·have e:((d.holds.length:Int)==8)=true:=by rw[a8];rfl
    have f:=fin 8 (cb 8 dz (by rw[a,bX a8]));simp only[zS,lD,qA,R.hl,a7,kJ,b3,jL,e];exact f
   ·have e:((d.holds.length:Int)==8)=false:=beq_eq_false_iff_ne.2 dy;rw[bY a8]at a;cases u:fO m (dW h)with
    |true=>
     have f:=fin 0 (nb _ P (by rw[a,Y u]) l);rw[u]at k;simp only[zS,lD,aS,qA,R.hl,a7,kJ,b3,jL,e,bv,hb,E,jw,aB,k];exact f
    |false=>
     have f:=fin 3 (cb 3 dz (by rw[a,Z u]));rw[u]at k;simp only[zS,lD,aS,qA,R.hl,a7,kJ,b3,jL,e,bv,hb,E,jw,aB,k];exact f
 by_cases H:o.1=10
 ·have q:(o.1==10)=true:=by rw[H];rfl
  have P:eV m o h=bL 0:=by rw[eV,bY dy,bY dy,bY dy];rfl
  have a:dZ m.c.2.2.1 d (eN d h) (eJ m h) o h.2.2.2.2=eJ m h:=by rw[dZ,bY k2,bY A,bY G,bY O,bY dy,bX (.inl H)]
  obtain⟨i,r,b,c,z,rfl,hb,E,C,k,_⟩:=B (by rw[show gH o.1=1 by rw[H];rfl];decide);cases u:fO m (dW h)with
  |true=>
   have f:=fin 0 (nb _ P (by rw[a,Y u]) l);rw[u]at k;simp only[L107_0,zS,am,ag,y,aJ,bn k1,bn k2,bn A,bn G,bn O,q,aS,bv,hb,E,jw,aB,k];exact f
  |false=>
   have f:=fin 3 (cb 3 dz (by rw[a,Z u]));rw[u]at k;simp only[L107_0,zS,am,ag,y,aJ,bn k1,bn k2,bn A,bn G,bn O,q,aS,bv,hb,E,jw,aB,k];exact f
 by_cases l:o.1=12
 ·have q:(o.1==12)=true:=by rw[l];rfl
  have a:dZ m.c.2.2.1 d (eN d h) (eJ m h) o h.2.2.2.2=eJ m h:=by rw[dZ,bY k2,bY A,bY G,bY O,bY dy,bX (.inr l)]
  obtain⟨i,r,b,c,z,rfl,hb,E,C,k,X⟩:=B (by rw[show gH o.1=1 by rw[l];rfl];decide);have P:eV m o h=(0,kY,r.off,0):=by
   rw[eV,bY dy,bY dy,bX l,rgOf,z];simp only[Option.bind_some,C]
  have c9:ai prog (Instr.build 35 #[(2,bS r.off)])=some (.agg (fI (0,kY,r.off,0)).toArray):=bd_35_2;cases u:fO m (dW h)with
  |true=>
   have e:=nb _ P (by rw[a,Y u]) dy;rw[u]at k;simp only[L107_0,zS,am,ag,y,aJ,bn k1,bn k2,bn A,bn G,bn O,bn H,q,aS,bv,hb,E,jw,mN,aB,k,X,c9];exact nN (0,kY,r.off,0) true S h8 T U e
  |false=>
   have e:=cb 3 dz (by rw[a,Z u]);rw[u]at k;simp only[L107_0,zS,am,ag,y,aJ,bn k1,bn k2,bn A,bn G,bn O,bn H,q,aS,bv,hb,E,jw,aB,k,tO];exact nN (bL 3) true S h8 T U e
 by_cases b6:o.1=11
 ·have q:(o.1==11)=true:=by rw[b6];rfl
  have P:eV m o h=bL 0:=by rw[eV,bY dy,bY dy,bY dy];rfl
  have f:=fin 0 (nb _ P (by rw[dZ,bY k2,bY A,bY G,bY O,bY dy,bY dy]) dy);simp only[L107_0,zS,am,ag,y,aJ,bn k1,bn k2,bn A,bn G,bn O,bn H,bn l,q];exact f
 ·have k6:6<=o.1:=dy;have k9:o.1<=9:=dy;have eo:gH o.1=2:=by rw[gH,bY dy,bX ⟨k6,k9⟩]
  obtain⟨i,r,b,c,z,rfl,hb,E,C,k,X⟩:=B (by rw[eo];decide);have d1:eH m h 2=true:=by
   rcases hk with hk|hk
   ·rw[eo]at hk;omega
   ·rw[eo]at hk;exact hk
  have a:dZ m.c.2.2.1 d (eN d h) (eJ m h) o h.2.2.2.2=if eN d h=false then 4 else if h.2.2.2.2<=o.2.2.2.1 then 5 else 0:=by rw[dZ,bY k2,bY A,bY G,bY O,bX ⟨k6,k9⟩]
  have e:dI m nn o h=(pn m d o h,true):=by
   unfold pn;by_cases b1:eN d h=false
   ·rw[bX b1];exact cb 4 dz (by rw[a,bX b1])
   ·rw[bY b1];by_cases b2:h.2.2.2.2<=o.2.2.2.1
    ·rw[bX b2];exact cb 5 dz (by rw[a,bY b1,bX b2])
    ·rw[bY b2];exact nb _ rfl (by rw[a,bY b1,bY b2]) dy
  have d2:=aR (t:=37) (c:=(dC o).toArray) tJ (show(Tryz.prog.info? 37).map (·.size)=some (dC o).toArray.size from nZ) y;simp only[L107_0,zS,am,ag,y,aJ,bn k1,bn k2,bn A,bn G,bn O,bn H,bn l,bn b6,d2,jh h7];refine(c_rTouch I Wm hK n0 J d1 o0 k6 k9 z).mono ?_;rintro _ w2 ⟨rfl,c2⟩;exact nN (pn m d o h) true (S.trans c2) (c2.at h8 (by simp)) T U e
theorem c_rMust(I:iR w g (aP m) F)(k:Wf m K)(x:K<=1000000){nn:Nat}(l:jQ m nn o=true)(h:eF):
  aa prog 107 [bU g,bS nn,.agg (dC o).toArray,.agg (bB h).toArray] w λv w'=>v= .tuple #[.agg (fI (dI m nn o h).1).toArray,.bool (dI m nn o h).2]/\ad [] w w':=by
 apply F107_ok;obtain⟨d,y⟩:=may_hd l;simp only[F107,ak,au,sn,ah];generalize f:((w.alloc (.cells (dC o).toArray 37)).alloc _).alloc _=w1;have E:ad [] w w1:=by rw[<- f];exact(((ad.refl _ _).alloc _).alloc _).alloc _
 have G:hp w1 w.heap.size=some (.cells (dC o).toArray 37):=by rw[<- f,af,ah,ah,bY dy,af,ah,bY dy,af,bX rfl]
 have H:hp w1 (w.heap.size+1)=some (.cells (bB h).toArray 32):=by rw[<- f,af,ah,ah,bY dy,af,ah,bX rfl]
 have L:hp w1 (w.heap.size+1+1)=some (.cells (fI lV).toArray 35):=by rw[<- f,af,ah,ah,bX rfl];rfl
 clear f;have z:=aR (t:=37) (c:=(dC o).toArray) tJ (show(Tryz.prog.info? 37).map (·.size)=some (dC o).toArray.size from nZ) G;obtain⟨s,X,rv,Y,Z,R⟩:=(I.an E).rd;have sm:=k.small x;have J:(aP m).rgs.length<=1000000:=by show(m.rgs.map _).length<=_;rw[List.length_map];exact sm.r
 have M:∀p∈(aP m).rgs,p.1.objs.length<=1000000:=λp hp=>by
  obtain⟨r,A,rfl⟩:=List.mem_map.1 hp;exact sm.o r A
 simp only[z,jh H,ac];refine(c_rGood R J M o h).mono ?_;rintro _ w2 ⟨rfl,n⟩;rw[good_rfv k o.1 h];have a:=E.trans n;have q:=n.at G (by simp);have B:=n.at H (by simp);have C:=n.at L (by simp);have O:=must_eq (h:=h) l y;have P:(bB h).toArray[0+0]? =some (bS h.1):=rfl;have Q:(bB h).toArray[0+1]? =some (bS h.2.1):=rfl;by_cases b:gH o.1=0
 ·rw[bX b];simp only[zS,am,ag,q,aJ];refine(c_Of o.1 w2).step ?_;have D:(gH o.1 !=0)=false:=by rw[b];rfl
  simp only[zS,D];exact l_rMust0 a (I.an a) k x q B C rfl dy l y (.inl b) (λh=>absurd b h)
 ·rw[bY b];cases j:eH m h (gH o.1)with
  |false=>
   have A:cf m d o h=2:=by rw[cf,bX ⟨b,j⟩]
   have e:dI m nn o h=(bL 2,true):=by rw[O,A,bX dz]
   simp only[zS,tO];exact nN (bL 2) true a C rfl dy e
  |true=>
   simp only[zS,am,ag,q,aJ];refine(c_Of o.1 w2).step ?_;have D:(gH o.1 !=0)=true:=bne_iff_ne.2 b;obtain⟨s2,S,T,U,V,W⟩:=(I.an a).rd;simp only[zS,D,bG,gR,ag,B,P,Q];refine(c_rFind W (dW h) J).step ?_;rw[findX_rf];obtain⟨i,u⟩:∃i,ek m.rgs (dW h)=some i:=by
    unfold eH at j;split at j
    ·cases j
    ·rename_i i u;exact⟨i,u⟩
   rw[u];exact l_rMust0 a (I.an a) k x q B C rfl dy l y (.inr j) (λ_=>⟨i,u,rfl⟩)
end
section
variable{W w:World}{g g6 g7:Nat}{m:dv}{x:tL}{F:Fp}{K:Nat}{o:ez}{h:eF}{d:nj}{nn:Nat}
theorem iR.qY(I:iR w g x F){i:Nat}{p:eO×Bool}(B:x.rgs[i]? =some p){k:Nat}(C:k<8){P:Th}(D:(rrT p)[k]? =some P):
  ∃b c v a,ao (hp w g) (0+9)=some (.slice (some ⟨b,0,none⟩) x.rgs.length c)/\b≠g/\F b/\(∀ y,a y->F y)/\ao (hp w b) (i*8+k)=some v/\P w a v/\
   ∀w1 F' P' v' p',aO a F' w w1->dO P'->P' w1 F' v'->rrT p'=(rrT p).set k P'->mX (hp w1 b) (i*8+k+1)=true/\v'.cells= #[v']/\v'.oneCell'=true/\hp w1 g=hp w g/\
    ∃j,iR (put w1 b ((dG (hp w1 b)).setIfInBounds (i*8+k) v') (dH (hp w1 b))) g {x with rgs:=x.rgs.set i p'} j/\aO F j w (put w1 b ((dG (hp w1 b)).setIfInBounds (i*8+k) v') (dH (hp w1 b))):=by
 have l:(x.rgs.flatMap rrT)[i*8+k]? =some P:=(ba nI x.rgs i p B k C).trans D;obtain⟨b,c,v,a,E,m,o,d,_,_,q,hv,_,f⟩:=dV.row I (fm x) (k:=9) (e':=250) (z:=8) (n:=x.rgs.length) (Qs:=x.rgs.flatMap rrT) rfl (im x.rgs) l;refine⟨b,c,v,a,E,m,o,d,q,hv,λw1 F' P' v' p' u r s G=>?_⟩;obtain⟨ok,H,J,t,j,A,K⟩:=f w1 F' P' v' u r s;rw[gA nI C G B]at A;have e:qI (x.rgs.set i p')=aL 250 8 x.rgs.length ((x.rgs.set i p').flatMap rrT):=by rw[qI,cE]
 rw[<- e]at A;exact⟨ok,H,J,t,j,A,K⟩
theorem iR.holdPut(I:iR w g x F){l:List iD}(A:x.holds[nn]? =some l):
  ∃b c v d,ao (hp w g) (0+11)=some (.slice (some ⟨b,0,none⟩) x.holds.length c)/\b≠g/\F b/\(∀ y,d y->F y)/\ao (hp w b) nn=some v/\nq l w d v/\
   ∀w1 F' a v',aO d F' w w1->nq a w1 F' v'->mX (hp w1 b) (nn+1)=true/\v'.cells= #[v']/\v'.oneCell'=true/\hp w1 g=hp w g/\
    ∃j,iR (put w1 b ((dG (hp w1 b)).setIfInBounds nn v') (dH (hp w1 b))) g {x with holds:=x.holds.set nn a} j/\aO F j w (put w1 b ((dG (hp w1 b)).setIfInBounds nn v') (dH (hp w1 b))):=by
 have m:(x.holds.map nq)[nn]? =some (nq l):=by rw[cM,A];rfl
 obtain⟨b,c,v,d,B,o,p,f,_,_,q,hv,_,i⟩:=dV.row I (fm x) (k:=11) (e':=161) (z:=1) (n:=x.holds.length) (Qs:=x.holds.map nq) rfl (oX x.holds) m;refine⟨b,c,v,d,B,o,p,f,q,hv,λw1 F' a v' u r=>?_⟩;obtain⟨ok,C,D,s,j,t,E⟩:=i w1 F' (nq a) v' u (good_keys a) r;rw[<- List.map_set]at t;have e:mr (x.holds.set nn a)=aL 161 1 x.holds.length ((x.holds.set nn a).map nq):=by rw[mr,cE]
 rw[<- e]at t;exact⟨ok,C,D,s,j,t,E⟩
theorem rf_setHd(m:dv)(a:nj):aP (gI m nn a)={aP m with depth:=(aP m).depth.set nn a.depth,holds:=(aP m).holds.set nn a.holds}:=by
 simp only[aP,gI,cq,List.map_set];rfl
theorem rf_setRg(m:dv){i:Nat}{r r':eO}(b:m.rgs[i]? =some r)(a:r'.nm=r.nm):aP {m with rgs:=m.rgs.set i r'}={aP m with rgs:=(aP m).rgs.set i (r',fO m r.nm)}:=by
 simp only[aP,List.map_set,<-a];rfl
theorem nd_unique{L:List eO}(h:(L.map (·.nm)).Nodup){i j:Nat}{r s:eO}(c:L[i]? =some r)(d:L[j]? =some s)(e:r.nm=s.nm):i=j:=by
 have f:(L.map (·.nm))[i]? =some r.nm:=by rw[cM,c];rfl
 have g:(L.map (·.nm))[j]? =some r.nm:=by rw[cM,d,e];rfl
 obtain⟨a1,a2⟩:=ce.1 f;obtain⟨a,b⟩:=ce.1 g;have hp:=List.pairwise_iff_getElem.1 h;rcases Nat.lt_trichotomy i j with hlt|heq|hlt
 ·exact absurd (a2.trans b.symm) (hp i j a1 a hlt)
 ·exact heq
 ·exact absurd (b.trans a2.symm) (hp j i a a1 hlt)
theorem rf_free(f:Wn m K){i:Nat}{r:eO}{q:iD}(g:m.rgs[i]? =some r)(o:m.slots[r.nm.1.toNat]? =some (1,q.2))(p:r.nm.2=q.2){v:Int}(hv:v≠1):
  aP {m with slots:=m.slots.set r.nm.1.toNat (v,q.2)}={aP m with state:=(aP m).state.set r.nm.1.toNat v,rgs:=(aP m).rgs.set i (r,false)}:=by
 have l:∀(j:Nat) (x:eO),m.rgs[j]? =some x->fO {m with slots:=m.slots.set r.nm.1.toNat (v,q.2)} x.nm=if j=i then false else fO m x.nm:=λj x k=>by
  unfold fO;simp only[cE];obtain⟨a,b,c,t⟩:=f.gn x (cD k);rw[cj (show 0<=x.nm.1/\x.nm.1<m.slots.length from⟨a,b⟩),Bool.true_and,Bool.true_and];by_cases n:r.nm.1.toNat=x.nm.1.toNat
  ·have a2:(m.slots.set r.nm.1.toNat (v,q.2))[x.nm.1.toNat]? =some (v,q.2):=by rw[<- n,cU,bX rfl,bX (ce.1 o).1]
   rw[cr (by rw[a2];intro e;exact hv (congrArg Prod.fst (Option.some.inj e)))];by_cases d:j=i
   ·rw[bX d]
   ·rw[bY d];refine(cr ?_).symm;rw[<- n,o];intro e;have s:q.2=x.nm.2:=(Prod.mk.inj (Option.some.inj e)).2;obtain⟨a',_⟩:=f.gn r (cD g);exact d (nd_unique f.nd k g (Prod.ext dy (by rw[<- s,p])))
  ·have d:j≠i:=λe=>by
    subst e;rw[g]at k;cases k;exact n rfl
   rw[bY d];have:(m.slots.set r.nm.1.toNat (v,q.2))[x.nm.1.toNat]? =m.slots[x.nm.1.toNat]? :=by rw[cU,bY n]
   rw[this]
 unfold aP;simp only[List.map_set];congr 1
 ·exact mV (by rw[cM,o];rfl)
 ·apply List.ext_getElem?;intro j;rw[cM,cU,cM];by_cases d:i=j
  ·subst d;rw[bX rfl,g];simp only[Option.map_some,l i r g,if_true];rw[bX (by rw[List.length_map];exact(ce.1 g).1)]
  ·rw[bY d];cases k:m.rgs[j]? with
   |none=>rfl
   |some x=>simp only[Option.map_some,l j x k,bY (Ne.symm d)]
theorem l_rDoes2(B:ad [] W w)(I:iR w g (aP m) F)(J:Wf m K)(A:hp w g6=some (.cells (dC o).toArray 37)){i:Nat}{r:eO}{k:Nat}{L:List Int}{j:Nat}(O:ObjAt m h o.2.2.2.1 i r k L j)(T:m.hands[nn]? =some d)(k6:o.1=7\/o.1=8\/o.1=9):
  P128_2 (bU g) (bU g6) (bS i) (bS k) (bS j) w λv w'=>v= .tuple #[]/\∃F',iR w' g (aP (fF m nn o h)) F'/\aO F F' W w':=by
 apply L128_2_ok;have C:ad [] w w.drew:=(ad.refl _ _).drew;obtain⟨b,c,M,U,D,V,p1,p2,p3,p4,_⟩:=I.word O.rf O.wk O.val;obtain⟨b',c',X,Y,Z,a7,P,Q,R,q4,t⟩:=(I.an C).word O.rf O.wk O.val;rw[show ao (hp w.drew g) (0+9)=_ from p1]at P;cases P;rw[show ao (hp w.drew b) (i*8+6)=_ from p2]at Q;cases Q;rw[show ao (hp w.drew M) k=_ from p3]at R;cases R;have W1:=J.w1;have W2:=J.w2;have a8:i<(aP m).rgs.length:=(ce.1 O.rf).1;have z:=ph (b:=b) (p:=0) (n:=(aP m).rgs.length) (c:=c) (j:= .i64) (i:=(i:Int)) dy dy;rw[cq,cV]at z;have a9:=(ce.1 O.wk).1;have a:=ia_97 (b:=M) (p:=0) (n:=r.words.length) (c:=U) (j:= .i64) (i:=(k:Int)) dy dy;rw[cq,cV,dm]at a;have b1:=O.jl;have f:=ia_139 (b:=D) (p:=0) (n:=L.length) (c:=V) (j:= .i64) (i:=(j:Int)) dy dy;rw[cq,cV,dm]at f;have rd:∀y,aP (dX m h o.2.2.2.1 y)={aP m with rgs:=(aP m).rgs.set i ({r with words:=r.words.set k (L.set j y)},fO m r.nm)}:=λy=>by rw[O.put y];exact rf_setRg m O.ri rfl
 have s:m.hands[((nn:Int)).toNat]? =some d:=T;have fin:∀y,fF m nn o h=dX m h o.2.2.2.1 y->dE prog (Instr.storeAt 33 (.pointer (some ⟨D,j,none⟩)) (bT y)) w.drew λw'=>∃F',iR w' g (aP (fF m nn o h)) F'/\aO F F' W w':=λy e=>by
  obtain⟨ok,E,G,H⟩:=t y;rw[og rfl rfl ok,e,rd y];exact⟨E,G,H.pre (B.trans C)⟩
 have l:∀y,fF m nn o h=dX m h o.2.2.2.1 y->dE prog (Instr.storeAt 33 (.pointer (some ⟨D,j,none⟩)) (bT y)) w.drew λw'=>True/\∃F',iR w' g (aP (fF m nn o h)) F'/\aO F F' W w':=λy e=>by
  obtain⟨ok,E,G,H⟩:=t y;rw[og rfl rfl ok,e,rd y];exact⟨trivial,E,G,H.pre (B.trans C)⟩
 by_cases u:o.1=7
 ·have q:(o.1==7)=true:=by rw[u];rfl
  have e:fF m nn o h=dX m h o.2.2.2.1 o.2.2.2.2.1:=by
   rw[fF,s];simp only;rw[bY dy,bY dy,bY dy,bX u]
  simp only[L128_2,zS,aS,jx,am,fB,bv,od,jc,bx,ag,p1,p2,p3,p4,z,a,f,A,aJ,pR,q];first|exact l _ e|exact fin _ e
 by_cases x:o.1=8
 ·have q:(o.1==8)=true:=by rw[x];rfl
  have e:fF m nn o h=dX m h o.2.2.2.1 (IntKind.u64.wrap (gX m h o.2.2.2.1+o.2.2.2.2.1)):=by
   rw[fF,s];simp only;rw[bY dy,bY dy,bY dy,bY u,bX x]
  simp only[L128_2,zS,aS,jx,am,fB,bv,od,jc,bx,ag,p1,p2,p3,p4,z,a,f,A,aJ,pR,bn u,q,aj];first|exact l _ e|exact fin _ e
 ·have S:o.1=9:=dy;by_cases hv:gX m h o.2.2.2.1=o.2.2.2.2.1
  ·have ev:(gX m h o.2.2.2.1==o.2.2.2.2.1)=true:=by rw[hv];exact beq_self_eq_true _
   have e:fF m nn o h=dX m h o.2.2.2.1 o.2.2.2.2.2:=by
    rw[fF,s];simp only;rw[bY dy,bY dy,bY dy,bY u,bY x,bX S,bX hv]
   simp only[L128_2,zS,aS,jx,am,fB,mB,bv,od,jc,bx,ag,p1,p2,p3,p4,z,a,f,A,aJ,pR,op_5,bn u,bn x,ev];first|exact l _ e|exact fin _ e
  ·have e:fF m nn o h=m:=by
    rw[fF,s];simp only;rw[bY dy,bY dy,bY dy,bY u,bY x,bX S,bY hv]
   simp only[L128_2,zS,aS,jx,am,fB,bv,od,jc,bx,ag,p1,p2,p3,p4,z,a,f,A,aJ,pR,bn u,bn x,bn hv];rw[e];exact⟨by first|rfl|trivial,F,I,aO.bV B⟩
end
section
variable{W w:World}{g g6 g7:Nat}{m:dv}{x:tL}{F:Fp}{K:Nat}{o:ez}{h:eF}{d:nj}{nn:Nat}
theorem l_rDoes1(E:ad [] W w)(I:iR w g (aP m) F)(f:Wf m K)(G:K<=1000000)(x:hp w g6=some (.cells (dC o).toArray 37))(y:hp w g7=some (.cells (bB h).toArray 32)){i:Nat}{r:eO}{k:Nat}{L:List Int}{j:Nat}(O:ObjAt m h o.2.2.2.1 i r k L j)(H:m.hands[nn]? =some d)(J:o.1=7\/o.1=8\/o.1=9):
  P128_1 (bU g) (bU g6) (bU g7) (bS i) (.bool true) w λv w'=>v= .tuple #[]/\∃F',iR w' g (aP (fF m nn o h)) F'/\aO F F' W w':=by
 apply L128_1_ok;have z:ad [] w w.drew:=(ad.refl _ _).drew;obtain⟨s,Y,rv,Z,hh,R⟩:=(I.an z).rd;obtain⟨Fr,l⟩:=R.rT;obtain⟨b,c,rfl,cv,wv,ov,Q⟩:=tM l O.rf;obtain⟨A,M,rfl,q⟩:=lI Q.cT;have P:i<(aP m).rgs.length:=(ce.1 O.rf).1;have B:=ph (b:=b) (p:=0) (n:=(aP m).rgs.length) (c:=c) (j:= .i64) (i:=(i:Int)) dy dy;rw[cq,cV]at B;have t:ao (hp w g) (0+9)=some (.slice (some ⟨b,0,none⟩) (aP m).rgs.length c):=R.rl;have S:=O.jl;have T:=O.wl;have W2:=f.w2;have u:r.chunks.length<=1000000:=cQ (f.rg r (cD O.ri)).cl G;have e:=c_rAt (w:=w.drew) (p:=(r,fO m r.nm)) (c:=M) (wv:=wv) (ov:=ov) q u h.2.2.1;rw[show nH (r,fO m r.nm).1.chunks h.2.2.1=(k:Int)from O.ix]at e;have U:(bB h).toArray[0+2]? =some (bS h.2.2.1):=rfl;have C:(bB h).toArray[0+3]? =some (bS h.2.2.2.1):=rfl;simp only[L128_1,zS,bm,fy,ib,aS,bv,ag,x,y,mm,U,C,t,B,ld_rg Q,aj,O.jn,ap (n:=(j:Int)) dy dy];repeat' (with_reducible apply And.intro)
 all_goals
  refine e.mono ?_;rintro _ w3 ⟨rfl,V⟩;have a:=z.trans V;have D:=a.at x (by simp);have X:=a.at y (by simp);try simp only[zS,D,X,mm,C,aj,O.jn,ap (n:=(j:Int)) dy dy]
  exact l_rDoes2 (E.trans a) (I.an a) f D O H J
theorem qN{b n c:Nat}{i:Int}(a:0<=i)(d:i<n):ai prog (Instr.indexAt 22 (.slice (some ⟨b,0,none⟩) n c) (bS i))=some (.pointer (some ⟨b,i.toNat,none⟩)):=by
 have:=ia_22 (b:=b) (p:=0) (n:=n) (c:=c) (j:= .i64) (i:=i) a d;rw[cV,dm]at this;exact this
theorem l_rDoes0(hc:ad [] W w)(I:iR w g (aP m) F)(Wm:Wf m K)(hK:K<=1000000)(c7:Wn m K)(U:hp w g6=some (.cells (dC o).toArray 37))(h7:hp w g7=some (.cells (bB h).toArray 32))(f7:¬F g7)(hm:jQ m nn o=true)(hd:m.hands[nn]? =some d)(hr:cf m d o h=0){ix:Int}(c8:gH o.1≠0->∃i,ek m.rgs (dW h)=some i/\ix=i):
  P128_0 (bU g) (bS nn) (bU g6) (bU g7) (bS ix) w λv w'=>v= .tuple #[]/\∃F',iR w' g (aP (fF m nn o h)) F'/\aO F F' W w':=by
 apply L128_0_ok;obtain⟨n0,n1,o0⟩:=may_n hm;obtain⟨ka,kb⟩:=may_k hm;have V:=(jM hr).2;have hD:=Wm.hd d (cD hd);have b5:m.hands[(nn:Int).toNat]? =some d:=hd;have T:fF m nn o h=if o.1=3 then gI m nn {d with depth:=d.depth+1}
  else if o.1=4 then gI m nn (if d.depth-1=0 then{depth:=0,holds:= []}else{d with depth:=d.depth-1})
  else if o.1=5 then(if eN d h then m else gI m nn {d with holds:=d.holds++ [dW h]})
  else if o.1=7 then dX m h o.2.2.2.1 o.2.2.2.2.1
  else if o.1=8 then dX m h o.2.2.2.1 (IntKind.u64.wrap (gX m h o.2.2.2.1+o.2.2.2.2.1))
  else if o.1=9 then(if gX m h o.2.2.2.1=o.2.2.2.2.1 then dX m h o.2.2.2.1 o.2.2.2.2.2 else m)
  else if o.1=10 then(match m.slots[h.1.toNat]? with|some p=>{m with slots:=m.slots.set h.1.toNat (if m.loose then 0 else 2,p.2)}|none=>m)
  else m:=by rw[fF,b5]<;>rfl
 have H:=(oB b5).2;have C:=(oB b5).1;rw[cq]at H C;have dl:(aP m).depth.length=m.hands.length:=by simp[aP]
 have i3:(aP m).holds.length=m.hands.length:=by simp[aP]
 have cd:ad [] w w.drew:=(ad.refl _ _).drew;have i4:hp w.drew g7=some (.cells (bB h).toArray 32):=h7;have e0:(bB h).toArray[0+0]? =some (bS h.1):=rfl;have e1:(bB h).toArray[0+1]? =some (bS h.2.1):=rfl;by_cases t:o.1=3
 ·have q:(o.1==3)=true:=by rw[t];rfl
  rw[bX t]at T;obtain⟨b,c,hl,c9,d1,X,x⟩:=I.qM (k:=10) (L:=(aP m).depth) rfl H;obtain⟨ok,F1,t1,Y⟩:=x (d.depth+1);have ia:=qN (b:=b) (n:=(aP m).depth.length) (c:=c) (i:=(nn:Int)) n0 (by rw[dl];exact n1);rw[cq]at ia;have J:ao (hp w g) (0+10)=some (.slice (some ⟨b,0,none⟩) (aP m).depth.length c):=hl;simp only[L128_0,zS,am,ag,U,aJ,q,lC,aH,J,ia,X,aj,ap (n:=d.depth+1) (by rw[dZ,bY dy,bX t]at V;omega) (by rw[dZ,bY dy,bX t]at V;omega)];rw[hC rfl rfl ok,T,rf_setHd];have hs:(aP m).holds.set nn d.holds=(aP m).holds:=mV C;simp only[hs];exact⟨by first|rfl|trivial,F1,t1,Y.pre hc⟩
 by_cases D:o.1=4
 ·have q:(o.1==4)=true:=by rw[D];rfl
  rw[bY t,bX D]at T;obtain⟨b,c,hl,c9,d1,X,x⟩:=I.qM (k:=10) (L:=(aP m).depth) rfl H;obtain⟨ok,F1,t1,Y⟩:=x (d.depth-1);have ia:=qN (b:=b) (n:=(aP m).depth.length) (c:=c) (i:=(nn:Int)) n0 (by rw[dl];exact n1);rw[cq]at ia;have J:ao (hp w g) (0+10)=some (.slice (some ⟨b,0,none⟩) (aP m).depth.length c):=hl;have I1:iR (put w b ((dG (hp w b)).setIfInBounds nn (bS (d.depth-1))) (dH (hp w b))) g {aP m with depth:=(aP m).depth.set nn (d.depth-1)} F1:=t1;have d2:((aP m).depth.set nn (d.depth-1))[nn]? =some (d.depth-1):=by rw[cU,bX rfl,bX (ce.1 H).1]
  simp only[L128_0,zS,am,ag,U,aJ,bn t,q,lC,aH,J,ia,X,aZ,ap (n:=d.depth-1) (by rw[dZ,bY dy,bY t,bX D]at V;omega) (by rw[dZ,bY dy,bY t,bX D]at V;omega)];rw[hC rfl rfl ok,T];generalize put w b ((dG (hp w b)).setIfInBounds nn (bS (d.depth-1))) (dH (hp w b))=w1 at*;obtain⟨b1,c1,f9,h9,_,a9,_⟩:=I1.qM (k:=10) (L:=(aP m).depth.set nn (d.depth-1)) rfl d2;have b4:ao (hp w1 g) (0+10)=some (.slice (some ⟨b1,0,none⟩) (aP m).depth.length c1):=by have:=f9;rw[cE]at this;exact this
  have b6:=qN (b:=b1) (n:=(aP m).depth.length) (c:=c1) (i:=(nn:Int)) n0 (by rw[dl];exact n1);rw[cq]at b6;by_cases hz:d.depth-1=0
  ·have e:(d.depth-1==0)=true:=by rw[hz];rfl
   obtain⟨y,Z,v2,d3,M,_,_,_,Q,_,f⟩:=I1.holdPut (nn:=nn) (l:=d.holds) C;have E:=ia_180 (b:=y) (p:=0) (n:=(aP m).holds.length) (c:=Z) (j:= .i64) (i:=(nn:Int)) dy dy;rw[cq,cV,dm]at E;obtain⟨S,s1,s2,_,F2,t3,t4⟩:=f w1 ck [] (.slice none 0 0) ⟨aW.refl _ _,λk hk=>hk.elim⟩ aL.nil;have B:ao (hp w1 g) (0+11)=some (.slice (some ⟨y,0,none⟩) (aP m).holds.length Z):=M;simp only[zS,lD,ag,b4,b6,a9,e,qA,B,E];rw[st_161 s1 s2 S,bX hz,rf_setHd];have e2:(d.depth-1:Int)=0:=hz;rw[e2]at t3;exact⟨by first|rfl|trivial,F2,t3,(Y.trans t4).pre hc⟩
  ·simp only[zS,ag,b4,b6,a9,bn hz];rw[bY hz,rf_setHd];have hs:(aP m).holds.set nn d.holds=(aP m).holds:=mV C;simp only[hs];exact⟨by first|rfl|trivial,F1,I1,Y.pre hc⟩
 by_cases k5:o.1=5
 ·have q:(o.1==5)=true:=by rw[k5];rfl
  rw[bY t,bY D,bX k5]at T;obtain⟨s,gn,rv,dd,hh,R⟩:=I.rd;simp only[L128_0,zS,am,ag,U,aJ,bn t,bn D,q,bG,gR,h7,e0,e1];refine(c_rHas R n0 (by rw[cq];exact C) dy (dW h)).step ?_;rw[show decide (dW h∈d.holds)=eN d h from rfl];cases hv:eN d h with
  |true=>
   simp only[zS];rw[T,bX hv];exact⟨by first|rfl|trivial,F,I,aO.bV hc⟩
  |false=>
   rw[bY (by rw[hv];simp)]at T;obtain⟨y,Z,v2,d3,M,d4,_,_,Q,d5,f⟩:=(I.an cd).holdPut (nn:=nn) (l:=d.holds) C;have E:=ia_180 (b:=y) (p:=0) (n:=(aP m).holds.length) (c:=Z) (j:= .i64) (i:=(nn:Int)) dy dy;rw[cq,cV,dm]at E;have B:ao (hp w g) (0+11)=some (.slice (some ⟨y,0,none⟩) (aP m).holds.length Z):=M;have b7:ao (hp w y) nn=some v2:=Q;obtain⟨d6,_⟩:=fD d5;simp only[zS,lD,qA,kJ,B,E,b7,h7,e0,e1,ug];have fin:∀(x':Value) (w2:World),w2.ownsRow 0 256 2 x' (d.holds.length+1) (d.holds.flatMap gD++ [bS h.1,bS h.2.1])->w.drew.grownBy w2 v2.ownBlock->iB w.drew v2 x'->
     ao (hp w2 g) (0+11)=some (.slice (some ⟨y,0,none⟩) (aP m).holds.length Z)/\dE prog (Instr.storeAt 161 (.pointer (some ⟨y,nn,none⟩)) x') w2 λw'=>∃F',iR w' g (aP (fF m nn o h)) F'/\aO F F' W w':=by
    intro x' w2 ho hg b8;have d7:aL 256 2 d.holds.length ((d.holds.flatMap gD).map hN) w.drew d3 v2:=d5;obtain⟨F2,g1,g2⟩:=mq (vs:=gD (dW h)) d7 ho hg b8;have d8:nq (d.holds++ [dW h]) w2 F2 x':=by
     rw[nq,cJ];have e:(d.holds++ [dW h]).flatMap gD=d.holds.flatMap gD++gD (dW h):=by simp
     rw[e];exact g1
    obtain⟨S,s1,s2,g3,F3,t3,t4⟩:=f w2 F2 (d.holds++ [dW h]) x' g2 d8;refine⟨by rw[g3];exact B,?_⟩;rw[st_161 s1 s2 S,T,rf_setHd];have hs:(aP m).depth.set nn d.depth=(aP m).depth:=mV H;simp only[hs];exact⟨F3,t3,t4.pre (hc.trans cd)⟩
   have i5:=fun(x':Value) (w2:World) (a:_) (b:_) (c:_)=>fin x' w2 a b c;repeat' (with_reducible apply And.intro)
   all_goals
    refine ps_161 (λu hu=>by simp only[dg,dk,or_false]at hu;rcases hu with rfl|rfl<;>rfl) d6 dy (cX _) λx' w2 ho hg b8=>?_;obtain⟨f1,f2⟩:=fin x' w2 ho hg b8;try simp only[zS,f1,E]
    first|exact f2|(refine cast ?_ f2;congr 1;funext w';simp)
 by_cases z:o.1=10
 ·have q:(o.1==10)=true:=by rw[z];rfl
  obtain⟨i,r,hf,b9,d9,g4⟩:=pX hr dy;obtain⟨i',e3,e4⟩:=c8 (by rw[show gH o.1=1 by rw[z];rfl];decide);rw[hf]at e3;cases e3;rw[e4];obtain⟨s0,s1,s2⟩:=slots_at g4;have G:r.nm.1=h.1:=by rw[d9];rfl
  have e5:r.nm.2=h.2.1:=by rw[d9];rfl
  have e6:0<=h.1:=s0;have e7:h.1<m.slots.length:=s1;have a7:m.slots[r.nm.1.toNat]? =some (1,h.2.1):=by rw[G];exact s2
  have hx:(aP m).rgs[i]? =some (r,fO m r.nm):=by rw[rgs_rf,b9];rfl
  have i6:i<(aP m).rgs.length:=(ce.1 hx).1;obtain⟨b,c,v,Fk,hl,c9,d1,i1,X,hv,x⟩:=I.qY hx (k:=4) dy (P:=hN (.bool (fO m r.nm))) rfl;obtain⟨ok,_,_,_,F1,t1,Y⟩:=x w ck (hN (.bool false)) (.bool false) (r,false) (aO.none hv.2 w) (fN ⟨rfl,rfl⟩) ⟨rfl,λ_ h=>h⟩ rfl;have ia:=ph (b:=b) (p:=0) (n:=(aP m).rgs.length) (c:=c) (j:= .i64) (i:=(i:Int)) dy dy;rw[cq,cV]at ia;simp only[L128_0,zS,am,ag,U,aJ,bn t,bn D,bn k5,q,aS,bv,hl,ia,jw];rw[st_4 (o:=i*8+4) rfl rfl ok];have c4:=Y.an h7 f7;generalize put w b ((dG (hp w b)).setIfInBounds (i*8+4) (.bool false)) (dH (hp w b))=w1 at*;have e8:ad [] w1 w1.drew:=(ad.refl _ _).drew;have c5:(aP m).state.length=m.slots.length:=by simp[aP]
  have g5:(aP m).state[h.1.toNat]? =some 1:=by rw[<- G];simp[aP,a7]
  have I1:iR w1.drew g {aP m with rgs:=(aP m).rgs.set i (r,false)} F1:=iR.an t1 e8;obtain⟨y,Z,M,d4,i2,Q,f⟩:=I1.qM (k:=7) (L:=(aP m).state) rfl g5;obtain⟨S,F2,t3,t4⟩:=f 2;have g9:=qN (b:=y) (n:=(aP m).state.length) (c:=Z) (i:=h.1) e6 (by rw[c5];exact e7);have e9:ao (hp w1 g) (0+7)=some (.slice (some ⟨y,0,none⟩) (aP m).state.length Z):=M;have h1:hp w1.drew g7=some (.cells (bB h).toArray 32):=c4.1;simp only[zS,nU,aH,e9,bG,ag,c4.1,e0,g9];rw[hC (o:=h.1.toNat) rfl rfl S];have h2:=t4.an h1 c4.2;have I2:iR (put w1.drew y ((dG (hp w1.drew y)).setIfInBounds h.1.toNat (bS 2)) (dH (hp w1.drew y))) g {aP m with rgs:=(aP m).rgs.set i (r,false),state:=(aP m).state.set h.1.toNat 2} F2:=t3;have u2:=(Y.trans (t4.pre e8)).pre hc;generalize put w1.drew y ((dG (hp w1.drew y)).setIfInBounds h.1.toNat (bS 2)) (dH (hp w1.drew y))=w2 at*;obtain⟨_,_,_,_,_,R2⟩:=I2.rd;have ml:ao (hp w2 g) (0+6)=some (.bool m.loose):=R2.l;have f3:fF m nn o h={m with slots:=m.slots.set r.nm.1.toNat (if m.loose then 0 else 2,h.2.1)}:=by
   rw[T,bY t,bY D,bY k5,bY dy,bY dy,bY dy,bX z,G,<-G,a7]
  by_cases a8:m.loose=true
  ·rw[a8]at ml;have f4:ad [] w2 w2.drew:=(ad.refl _ _).drew;have f5:((aP m).state.set h.1.toNat 2)[h.1.toNat]? =some 2:=by rw[cU,bX rfl,bX (by rw[c5];omega)]
   obtain⟨b3,c3,h3,_,_,_,c6⟩:=(I2.an f4).qM (k:=7) (L:=(aP m).state.set h.1.toNat 2) rfl f5;obtain⟨h4,F3,t5,t6⟩:=c6 0;have f6:ao (hp w2 g) (0+7)=some (.slice (some ⟨b3,0,none⟩) (aP m).state.length c3):=by have:=h3;rw[cE]at this;exact this
   have h5:=qN (b:=b3) (n:=(aP m).state.length) (c:=c3) (i:=h.1) e6 (by rw[c5];exact e7);simp only[zS,fa_182_1,aB,ml,f6,h2.1,e0,h5];rw[hC (o:=h.1.toNat) rfl rfl h4,f3,bX a8];have:=rf_free (v:=0) (q:=(1,h.2.1)) c7 b9 a7 e5 dz;simp only at this;rw[this,G];rw[List.set_set]at t5;exact⟨by first|rfl|trivial,F3,t5,u2.trans (t6.pre f4)⟩
  ·have h8:m.loose=false:=by simpa using a8
   rw[h8]at ml;simp only[zS,fa_182_1,aB,ml];rw[f3,bY a8];have:=rf_free (v:=2) (q:=(1,h.2.1)) c7 b9 a7 e5 dz;simp only at this;rw[this,G];exact⟨by first|rfl|trivial,F2,I2,u2⟩
 have A:o.1=7\/o.1=8\/o.1=9->P128_1 (bU g) (bU g6) (bU g7) (bS ix) (.bool true) w λv w'=>v= .tuple #[]/\∃F',iR w' g (aP (fF m nn o h)) F'/\aO F F' W w':=by
  intro hk;obtain⟨t1,Y⟩:=pW hr dy dy;obtain⟨i,hf,rfl⟩:=c8 (by rw[gH,bY dy,bX ⟨dy,dy⟩];decide);obtain⟨i',r,k,L,j,O⟩:=obj_at Wm t1 o0 Y;have:i'=i:=by have:=O.fi;rw[hf]at this;exact(Option.some.inj this).symm
  subst this;exact l_rDoes1 hc I Wm hK U h7 O hd hk
 by_cases k7:o.1=7
 ·have q:(o.1==7)=true:=by rw[k7];rfl
  simp only[L128_0,zS,am,ag,U,aJ,bn t,bn D,bn k5,bn z,q];exact A (.inl k7)
 by_cases k8:o.1=8
 ·have q:(o.1==8)=true:=by rw[k8];rfl
  simp only[L128_0,zS,am,ag,U,aJ,bn t,bn D,bn k5,bn z,bn k7,q];exact A (.inr (.inl k8))
 by_cases k9:o.1=9
 ·have q:(o.1==9)=true:=by rw[k9];rfl
  simp only[L128_0,zS,am,ag,U,aJ,bn t,bn D,bn k5,bn z,bn k7,bn k8,q];exact A (.inr (.inr k9))
 ·simp only[L128_0,zS,am,ag,U,aJ,bn t,bn D,bn k5,bn z,bn k7,bn k8,bn k9];apply L128_1_ok;simp only[L128_1,zS];rw[T,bY t,bY D,bY k5,bY k7,bY k8,bY k9,bY z];exact⟨by first|rfl|trivial,F,I,aO.bV hc⟩
end
section
variable{W w:World}{g g6 g7:Nat}{m:dv}{x:tL}{F:Fp}{K:Nat}{o:ez}{h:eF}{d:nj}{nn:Nat}{r:jo}
theorem iR.notF(I:iR W g x F){y:Nat}(h:W.heap.size<=y):¬F y:=λa=>by have:=dV.lt I (fm x) y a;omega
theorem known_find(a:eH m h (gH o.1)=true):∃i,ek m.rgs (dW h)=some i:=by
 unfold eH at a;split at a
 ·cases a
 ·rename_i i b;exact⟨i,b⟩
theorem rf_len(m:dv):(aP m).rgs.length=m.rgs.length:=by simp[aP]
theorem c_rDoes(I:iR w g (aP m) F)(f:Wf m K)(j:K<=1000000)(a:Wn m K)(p:jQ m nn o=true)(q:m.hands[nn]? =some d)(k:cf m d o h=0):
  aa prog 128 [bU g,bS nn,.agg (dC o).toArray,.agg (bB h).toArray] w λv w'=>v= .tuple #[]/\∃F',iR w' g (aP (fF m nn o h)) F'/\aO F F' w w':=by
 apply F128_ok;simp only[F128,ak,au,ah];generalize c:(w.alloc (.cells (dC o).toArray 37)).alloc _=w1;have b:ad [] w w1:=by rw[<- c];exact((ad.refl _ _).alloc _).alloc _
 have a6:hp w1 w.heap.size=some (.cells (dC o).toArray 37):=by rw[<- c,af,ah,bY dy,af,bX rfl]
 have l:hp w1 (w.heap.size+1)=some (.cells (bB h).toArray 32):=by rw[<- c,af,ah,bX rfl]
 clear c;have r:¬F (w.heap.size+1):=I.notF dy;have t:(bB h).toArray[0+0]? =some (bS h.1):=rfl;have u:(bB h).toArray[0+1]? =some (bS h.2.1):=rfl;simp only[zS,am,ag,a6,aJ];refine(c_Of o.1 w1).step ?_;by_cases e:gH o.1=0
 ·have n:(gH o.1 !=0)=false:=by rw[e];rfl
  simp only[zS,n];exact l_rDoes0 b (I.an b) f j a a6 l r p q k (λh=>absurd e h)
 ·have n:(gH o.1 !=0)=true:=bne_iff_ne.2 e;obtain⟨i,s⟩:=known_find ((jM k).1.resolve_left e);obtain⟨C,x,y,z,A,B⟩:=(I.an b).rd;simp only[zS,n,bG,gR,ag,l,t,u];refine(c_rFind B (dW h) (by rw[rf_len];exact cQ f.rl j)).step ?_;rw[findX_rf,s];exact l_rDoes0 b (I.an b) f j a a6 l r p q k (λ_=>⟨i,s,rfl⟩)
theorem rrs_grown{L:List (eO×Bool)}{w':World}{y d:Value}{xs:List Value}(j:qI L w F y)(a:w.ownsRow 0 250 8 y L.length xs)(nm:iD)(cls:Int)
  (l:w'.ownsRow 0 250 8 d (L.length+1) (xs++ [bS nm.1,bS nm.2,bS cls,bS 0,.bool true,.slice none 0 0,.slice none 0 0,.slice none 0 0])) (n:w.grownBy w' y.ownBlock) (e:iB w y d):
  ∃F',qI (L++ [(⟨nm,cls,0, [], [], []⟩,true)]) w' F' d/\aO F F' w w':=by
 have o:fu w (rrT (⟨nm,cls,0, [], [], []⟩,true)) [bS nm.1,bS nm.2,bS cls,bS 0,.bool true,.slice none 0 0,.slice none 0 0,.slice none 0 0] (λ_=>ck):=by
  refine⟨rfl,λk P v g hv=>?_,λ_ _ _ _ _ b hb _=>hb⟩;have c:=(ce.1 g).1;rw[nI]at c;have f:k=0\/k=1\/k=2\/k=3\/k=4\/k=5\/k=6\/k=7:=dy;rcases f with rfl|rfl|rfl|rfl|rfl|rfl|rfl|rfl<;>cases g<;>cases hv
  ·exact⟨rfl,λ_ h=>h⟩
  ·exact⟨rfl,λ_ h=>h⟩
  ·exact⟨rfl,λ_ h=>h⟩
  ·exact⟨rfl,λ_ h=>h⟩
  ·exact⟨rfl,λ_ h=>h⟩
  ·exact aL.nil
  ·exact aL.nil
  ·exact aL.nil
 obtain⟨F',p,i,_⟩:=aL.grow (G:=ck) (m:=1) j (im L) (qJ _) o (λb=>⟨λh=>h.elim,fun⟨_,_,h⟩=>h⟩) (λ_ _ h=>h) (λq r=>by rw[kM r a];exact l) n e;refine⟨F',?_,⟨i.aw.mono λk c=>c.resolve_right id,λk c=>(i.sub k c).imp (·.resolve_right id) id⟩⟩;rw[qI,cJ,List.flatMap_append];simpa using p
theorem rf_create(g:Wn m K){s:Nat}{p:iD}(d:m.slots[s]? =some p)(n:p.1=0)(cls:Int)(o:bF p.2=p.2+1):
  aP {m with slots:=m.slots.set s (1,bF p.2),rgs:=m.rgs++ [⟨((s:Int),bF p.2),cls,0, [], [], []⟩]}=
   {aP m with state:=(aP m).state.set s 1,gen:=(aP m).gen.set s (bF p.2),rgs:=(aP m).rgs++ [(⟨((s:Int),bF p.2),cls,0, [], [], []⟩,true)]}:=by
 have f:=(ce.1 d).1;have lvN:fO {m with slots:=m.slots.set s (1,bF p.2),rgs:=m.rgs++ [⟨((s:Int),bF p.2),cls,0, [], [], []⟩]} ((s:Int),bF p.2)=true:=by
  unfold fO;simp only[cE,cq];rw[cj dy,Bool.true_and];exact cj (by rw[cU,bX rfl,bX f])
 have i:∀x∈m.rgs,fO {m with slots:=m.slots.set s (1,bF p.2),rgs:=m.rgs++ [⟨((s:Int),bF p.2),cls,0, [], [], []⟩]} x.nm=fO m x.nm:=λx j=>by
  obtain⟨a,b,c,l⟩:=g.gn x j;unfold fO;simp only[cE];congr 1;by_cases k:s=x.nm.1.toNat
  ·have a1:m.slots[x.nm.1.toNat]? =some p:=by rw[<- k];exact d
   have a2:(m.slots.set s (1,bF p.2))[x.nm.1.toNat]? =some (1,bF p.2):=by rw[<- k,cU,bX rfl,bX f]
   have:=l p a1;rw[cr (by rw[a2];intro e;have:=(Prod.mk.inj (Option.some.inj e)).2;omega),cr (by rw[a1];intro e;have:=congrArg Prod.fst (Option.some.inj e);simp only at this;omega)]
  ·have:(m.slots.set s (1,bF p.2))[x.nm.1.toNat]? =m.slots[x.nm.1.toNat]? :=by rw[cU,bY k]
   rw[this]
 unfold aP;simp only[List.map_set,List.map_append,List.map_cons,List.map_nil,lvN];congr 1;congr 1;exact List.map_congr_left λx j=>by rw[i x j]
theorem c_rCreate(I:iR w g (aP m) F)(Wm:Wf m K)(x:Wn m K)(hK:K+1<=1000000)(o:ez)(r:jo):
  aa prog 129 [bU g,.agg (dC o).toArray,.agg (fI r).toArray] w λv w'=>v= .bool (cx m o.2.2.2.1 r).1/\∃F',iR w' g (aP (cx m o.2.2.2.1 r).2) F'/\aO F F' w w':=by
 apply F129_ok;simp only[F129,ak,au,ah];generalize hw:(w.alloc (.cells (dC o).toArray 37)).alloc _=w1;have j:ad [] w w1:=by rw[<- hw];exact((ad.refl _ _).alloc _).alloc _
 have a4:hp w1 w.heap.size=some (.cells (dC o).toArray 37):=by rw[<- hw,af,ah,bY dy,af,bX rfl]
 have a5:hp w1 (w.heap.size+1)=some (.cells (fI r).toArray 35):=by rw[<- hw,af,ah,bX rfl]
 clear hw;have f4:¬F w.heap.size:=I.notF (cy _);have d:=I.an j;obtain⟨s,gn,rv,dd,hh,R⟩:=d.rd;have b1:be prog .eql 35 (.tmp 9) (.tmp 10) (.agg (fI r).toArray) (.agg (fI (bL 7)).toArray)=some (.bool (decide (r=bL 7))):=be_rs r (bL 7);have b2:ao (hp w1 g) (0+6)=some (.bool m.loose):=R.l;simp only[eW a5,ac,tO,b1];by_cases e:r=bL 7
 ·have q:cx m o.2.2.2.1 r=(m.loose||decide (gy m.slots=0),m):=by rw[cx,bX e]
  simp only[cj e,zS,fa_182_1,aB,b2];rw[q];by_cases D:m.loose=true
  ·simp only[D,zS];exact⟨by simp,F,d,aO.bV j⟩
  ·have b3:m.loose=false:=by simpa using D
   simp only[b3,zS];refine(c_rSpare R (by simp only[aP,List.length_map];exact Wm.sl)).step ?_;rw[rf_spare];simp only[zS];refine⟨?_,F,d,aO.bV j⟩;by_cases hz:gy m.slots=0
   ·rw[hz];rfl
   ·rw[bn (show(gy m.slots:Int)≠0 by omega),cr hz];rfl
 ·have E:¬(0<=r.2.1.1/\r.2.1.1<m.slots.length)->cx m o.2.2.2.1 r=(false,m):=λh=>by rw[cx,bY e,bY h]
  have y:ao (hp w1 g) (0+0+3)=some (bS m.slots.length):=by
   rw[<- x.cs];exact R.c 3 dy
  have b4:(aP m).state.length=m.slots.length:=by simp[aP]
  have b5:(aP m).gen.length=m.slots.length:=by simp[aP]
  by_cases s0:r.2.1.1<0
  ·simp only[cr e,zS,lh,bG,ag,a5,rs_1,s0];rw[E dy];exact⟨by first|rfl|trivial,F,d,aO.bV j⟩
  by_cases s1:(m.slots.length:Int)<=r.2.1.1
  ·simp only[cr e,zS,lh,bG,fM,iJ,ag,a5,rs_1,s0,y,s1];rw[E dy];exact⟨by first|rfl|trivial,F,d,aO.bV j⟩
  obtain⟨p,a⟩:∃p,m.slots[r.2.1.1.toNat]? =some p:=⟨_,bZ dy⟩
  have G:(aP m).state[r.2.1.1.toNat]? =some p.1:=by simp[aP,a]
  have H:(aP m).gen[r.2.1.1.toNat]? =some p.2:=by simp[aP,a]
  obtain⟨b,c,hl,b6,d7,J,c7⟩:=d.qM (k:=7) (L:=(aP m).state) rfl G;obtain⟨f,c8,M,c9,d1,O,_⟩:=d.qM (k:=8) (L:=(aP m).gen) rfl H;have z:ao (hp w1 g) (0+7)=some (.slice (some ⟨b,0,none⟩) (aP m).state.length c):=hl;have t:ao (hp w1 g) (0+8)=some (.slice (some ⟨f,0,none⟩) (aP m).gen.length c8):=M;have ia:=qN (b:=b) (n:=(aP m).state.length) (c:=c) (i:=r.2.1.1) dy (by rw[b4];omega);have Q:=qN (b:=f) (n:=(aP m).gen.length) (c:=c8) (i:=r.2.1.1) dy (by rw[b5];omega);by_cases S:p.1=0
  ·have e0:(p.1 !=0)=false:=by rw[S];rfl
   have T:ao (hp w1 b) r.2.1.1.toNat=some (bS p.1):=J;have pg:=Wm.sg p (cD a);have pk:=x.gk p (cD a);have U:bF p.2=p.2+1:=by rw[bF,bX dy]
   have q:cx m o.2.2.2.1 r=if r=(0,(r.2.1.1,bF p.2,0,0,0),0,0)then
     (true,{m with slots:=m.slots.set r.2.1.1.toNat (1,bF p.2),rgs:=m.rgs++ [⟨(r.2.1.1,bF p.2),o.2.2.2.1,0, [], [], []⟩]})else(false,m):=by
    rw[cx,bY e,bX dy,a];simp only[ne_eq,S,not_true_eq_false,if_false]
   have V:be prog .neq 35 (.tmp 53) (.tmp 57) (.agg (fI r).toArray) (.agg (fI (0,(r.2.1.1,bF p.2,0,0,0),0,0)).toArray)=some (.bool (!decide (r=(0,(r.2.1.1,bF p.2,0,0,0),0,0)))):=be_nrs r (0,(r.2.1.1,bF p.2,0,0,0),0,0);simp only[cr e,zS,lh,bG,fM,nU,fa_182_3,iJ,ag,aH,a5,rs_1,s0,y,s1,z,ia,T,e0,t,Q,O];refine(c_rLater p.2 pg.2 w1 pg.1).step ?_;simp only[zS,eW a5,bdh_01,bdr_1,V];by_cases hr:r=(0,(r.2.1.1,bF p.2,0,0,0),0,0)
   ·rw[bX hr]at q;rw[q];have cd:ad [] w1 w1.drew:=(ad.refl _ _).drew;have b7:=d.an cd;obtain⟨bb,cc,W,d2,d3,_,A⟩:=b7.qM (k:=7) (L:=(aP m).state) rfl G;rw[show ao (hp w1.drew g) 7=_ from hl]at W;cases W;obtain⟨ok,F1,t1,t2⟩:=A 1;simp only[cj hr,zS,z,t,ia,Q];rw[hC (o:=r.2.1.1.toNat) rfl rfl ok];have X:=t2.an (show hp w1.drew w.heap.size=_ from a4) f4;have I2:iR (put w1.drew b ((dG (hp w1.drew b)).setIfInBounds r.2.1.1.toNat (bS 1)) (dH (hp w1.drew b))) g {aP m with state:=(aP m).state.set r.2.1.1.toNat 1} F1:=t1;have Y:ao (hp (put w1.drew b ((dG (hp w1.drew b)).setIfInBounds r.2.1.1.toNat (bS 1)) (dH (hp w1.drew b))) g) 8=some (.slice (some ⟨f,0,none⟩) (aP m).gen.length c8):=by rw[aV (Ne.symm b6)];exact M
    generalize put w1.drew b ((dG (hp w1.drew b)).setIfInBounds r.2.1.1.toNat (bS 1)) (dH (hp w1.drew b))=w2 at*;obtain⟨bg,cg,Z,d4,_,_,B⟩:=I2.qM (k:=8) (L:=(aP m).gen) rfl H;rw[Y]at Z;cases Z;obtain⟨b9,F2,t3,t4⟩:=B (bF p.2);rw[hC (o:=r.2.1.1.toNat) rfl rfl b9];have c2:=t4.an X.1 X.2;have I3:iR (put w2 f ((dG (hp w2 f)).setIfInBounds r.2.1.1.toNat (bS (bF p.2))) (dH (hp w2 f))) g {aP m with state:=(aP m).state.set r.2.1.1.toNat 1,gen:=(aP m).gen.set r.2.1.1.toNat (bF p.2)} F2:=t3;generalize put w2 f ((dG (hp w2 f)).setIfInBounds r.2.1.1.toNat (bS (bF p.2))) (dH (hp w2 f))=w3 at*;have a7:ad [] w3 w3.drew:=(ad.refl _ _).drew;obtain⟨v,Fk,d5,d8,c3,c4,C⟩:=dV.repl (I3.an a7) (fm _) (k:=9) (P:=qI (aP m).rgs) rfl;have a8:ao (hp w3 g) (0+9)=some v:=c3;obtain⟨xs,Fs,q1,q2,q3,q4⟩:=c4;have d6:(aP m).rgs.length=m.rgs.length:=rf_len m;have d9:=Wm.rl;simp only[zS,aS,bm,bv,ag,a8,c2.1,mm,bd_250_0_1_2_4];refine ps_179 (λu hu=>by simp only[dg,dk,or_false]at hu;rcases hu with rfl|rfl|rfl|rfl|rfl|rfl|rfl|rfl<;>rfl) q1 dy (cX _) λy' w4 ho hg c5=>?_;obtain⟨F3,r1,r2⟩:=rrs_grown (nm:=(r.2.1.1,bF p.2)) (cls:=o.2.2.2.1) (L:=(aP m).rgs) ⟨xs,Fs,q1,q2,q3,q4⟩ q1 ho hg c5;obtain⟨c6,z1,z2,_,F4,t5,t6⟩:=C w4 F3 (qI ((aP m).rgs++ [(⟨(r.2.1.1,bF p.2),o.2.2.2.1,0, [], [], []⟩,true)])) y' r2 (sD _) r1;rw[st_179 (o:=0+9) z1 z2 c6];have a9:((r.2.1.1.toNat:Nat):Int)=r.2.1.1:=dy;have rc:=rf_create (s:=r.2.1.1.toNat) x a S o.2.2.2.1 U;rw[a9]at rc;rw[rc];exact⟨by first|rfl|trivial,F4,t5,((t2.trans t4).pre (j.trans cd)).trans (t6.pre a7)⟩
   ·rw[bY hr]at q;simp only[cr hr,zS];rw[q];exact⟨by first|rfl|trivial,F,d,aO.bV j⟩
  ·have e0:(p.1 !=0)=true:=bne_iff_ne.2 S;have q:cx m o.2.2.2.1 r=(false,m):=by
    rw[cx,bY e,bX dy,a];simp only[ne_eq,S,not_false_eq_true,if_true]
   simp only[cr e,zS,lh,bG,fM,nU,iJ,ag,aH,a5,rs_1,s0,y,s1,z,ia,J,e0];rw[q];exact⟨by first|rfl|trivial,F,d,aO.bV j⟩
end
section
variable{W w:World}{g g7 g11:Nat}{m:dv}{x:tL}{F F0:Fp}{K:Nat}{o:ez}{h:eF}{i:Nat}{p:eO×Bool}{want:eF}{need:Int}{r:jo}
theorem qO{b n c:Nat}(a:i<n):ai prog (Instr.indexAt 179 (.slice (some ⟨b,0,none⟩) n c) (bS i))=some (.pointer (some ⟨b,i*8,none⟩)):=by
 have:=ph (b:=b) (p:=0) (n:=n) (c:=c) (j:= .i64) (i:=(i:Int)) dy dy;rw[cq,cV]at this;exact this
theorem set_rr{y z:eO×Bool}(x:tL):{({x with rgs:=x.rgs.set i y}:tL)with rgs:=({x with rgs:=x.rgs.set i y}:tL).rgs.set i z}={x with rgs:=x.rgs.set i z}:=by simp[List.set_set]
theorem at_rr{y:eO×Bool}(a:x.rgs[i]? =some p):({x with rgs:=x.rgs.set i y}:tL).rgs[i]? =some y:=by
 show(x.rgs.set i y)[i]? =_;rw[cU,bX rfl,bX (ce.1 a).1]
theorem l_rAlloc1(U:aO F0 F W w)(I:iR w g x F)(C:x.rgs[i]? =some p)(K:p.1.objs.length<=1000000)(n:hp w g11=some (.cells (bB want).toArray 32)):
  P130_1 (bU g) (bS i) (bU g11) w λv w'=>v= .bool true/\∃F',iR w' g {x with rgs:=x.rgs.set i ({p.1 with objs:=p.1.objs++ [want]},p.2)} F'/\aO F0 F' W w':=by
 apply L130_1_ok;have D:ad [] w w.drew:=(ad.refl _ _).drew;have q:=(ce.1 C).1;obtain⟨b,c,v,T,E,L,_,_,r,hv,d⟩:=(I.an D).qY C (k:=7) dy (P:=lH p.1.objs) rfl;have s:ao (hp w g) (0+9)=some (.slice (some ⟨b,0,none⟩) x.rgs.length c):=E;have f:ao (hp w b) (i*8+7)=some v:=r;have G:=qO (b:=b) (c:=c) q;have j:hp w.drew g11=some (.cells (bB want).toArray 32):=n;obtain⟨l,_⟩:=fD hv;have fin:∀(x':Value) (w2:World),w2.ownsRow 0 32 5 x' (p.1.objs.length+1) (p.1.objs.flatMap bB++bB want)->w.drew.grownBy w2 v.ownBlock->iB w.drew v x'->
   ao (hp w2 g) (0+9)=some (.slice (some ⟨b,0,none⟩) x.rgs.length c)/\dE prog (Instr.storeAt 76 (.pointer (some ⟨b,i*8+7,none⟩)) x') w2 λw'=>P130_3 w' λv w'=>v= .bool true/\∃F',iR w' g {x with rgs:=x.rgs.set i ({p.1 with objs:=p.1.objs++ [want]},p.2)} F'/\aO F0 F' W w':=by
  intro x' w2 t y a;obtain⟨H,z,A⟩:=mq (vs:=bB want) hv t y a;have m:lH (p.1.objs++ [want]) w2 H x':=by
   rw[lH,cJ];have e:(p.1.objs++ [want]).flatMap bB=p.1.objs.flatMap bB++bB want:=by simp
   rw[e];exact z
  obtain⟨ok,M,O,B,F3,Q,R⟩:=d w2 H (lH (p.1.objs++ [want])) x' ({p.1 with objs:=p.1.objs++ [want]},p.2) A (gf _) m rfl;refine⟨by rw[B];exact E,?_⟩;rw[st_76 (o:=i*8+7) M O ok];apply L130_3_ok;exact⟨rfl,F3,Q,U.trans (R.pre D)⟩
 simp only[L130_1,zS,aS,rY,bv,sh,s,G,f,jh j];repeat' (with_reducible apply And.intro)
 all_goals
  refine ps_76 (λu J=>by simp only[dg,dk,or_false]at J;rcases J with rfl|rfl|rfl|rfl|rfl<;>rfl) l dy (cX _) λx' w2 t y a=>?_;obtain⟨f1,S⟩:=fin x' w2 t y a;try simp only[zS,f1,G,rY]
  exact S
theorem l_rAlloc4(U:aO F0 F W w)(I:iR w g x F)(e:x.rgs[i]? =some p)(f:p.1.objs.length<=1000000)(j:hp w g11=some (.cells (bB want).toArray 32))(l:¬F g11):
  P130_4 (bU g) (bS i) (bU g11) (bS need) w λv w'=>v= .bool true/\∃F',iR w' g {x with rgs:=x.rgs.set i ({p.1 with off:=eI x.c.2.2.1 need,objs:=p.1.objs++ [want]},p.2)} F'/\aO F0 F' W w':=by
 apply L130_4_ok;have r:ad [] w w.drew:=(ad.refl _ _).drew;have m:=(ce.1 e).1;obtain⟨b,c,v,B,t,u,_,_,y,hv,a⟩:=(I.an r).qY e (k:=3) dy (P:=iT p.1.off) rfl;have d:ao (hp w g) (0+9)=some (.slice (some ⟨b,0,none⟩) x.rgs.length c):=t;have z:=qO (b:=b) (c:=c) m;obtain⟨_,_,_,_,_,R⟩:=I.rd;have n:ao (hp w g) (0+0+2)=some (bS x.c.2.2.1):=R.c 2 dy;obtain⟨ok,_,_,_,C,A,s⟩:=a w.drew ck (iT (eI x.c.2.2.1 need)) (bS (eI x.c.2.2.1 need)) ({p.1 with off:=eI x.c.2.2.1 need},p.2) (aO.none hv.2 _) (bH _ _) ⟨rfl,λ_ h=>h⟩ rfl;have q:=s.an (show hp w.drew g11=_ from j) l;have fin:=l_rAlloc1 (want:=want) (U.trans (s.pre r)) A (at_rr e) f q.1;rw[set_rr]at fin;simp only[L130_4,zS,aS,fM,fj,bv,ag,d,n];repeat' (with_reducible apply And.intro)
 all_goals
  refine(c_rAfter x.c.2.2.1 need w.drew).step ?_;simp only[zS,d,z,mN];rw[hC (o:=i*8+3) rfl rfl ok];exact fin
theorem l_rAlloc2(U:aO F0 F W w)(I:iR w g x F)(M:x.rgs[i]? =some p)(O:p.1.objs.length<=1000000)(c4:p.1.words.length<=1000000)(w0:0<=x.c.2.2.1)(w1:x.c.2.2.1<=1024)(Q:hp w g11=some (.cells (bB want).toArray 32))(S:¬F g11):
  P130_2 (bU g) (bS i) (bU g11) (bS need) w λv w'=>v= .bool true/\∃F',iR w' g {x with rgs:=x.rgs.set i ({p.1 with words:=p.1.words++ [List.replicate x.c.2.2.1.toNat 0],off:=eI x.c.2.2.1 need,objs:=p.1.objs++ [want]},p.2)} F'/\aO F0 F' W w':=by
 apply L130_2_ok;have T:ad [] w w.drew:=(ad.refl _ _).drew;have V:=(ce.1 M).1;obtain⟨b,c,X,B,Y,c5,_,q,Z,a7,r⟩:=(I.an T).qY M (k:=6) dy (P:=eG p.1.words) rfl;have a8:ao (hp w g) (0+9)=some (.slice (some ⟨b,0,none⟩) x.rgs.length c):=Y;have C:ao (hp w b) (i*8+6)=some X:=Z;have ia:=qO (b:=b) (c:=c) V;obtain⟨_,_,_,_,_,R⟩:=I.rd;obtain⟨iu,a9,b1,D,b2⟩:=inf_33;have b3:ao (hp w g) (0+0+2)=some (bS ((x.c.2.2.1.toNat:Nat):Int)):=by
  rw[show((x.c.2.2.1.toNat:Nat):Int)=x.c.2.2.1 by omega];exact R.c 2 dy
 generalize hn:x.c.2.2.1.toNat=n at*;have b4:madeCells (Value.int .u64 0).cells (n*iu.size)=(fE (List.replicate n 0)).toArray:=by
  apply Array.toList_inj.1;rw[D,dm];have:=toList_madeCells_one (Value.int .u64 0) n;rw[fE,List.map_replicate];exact this
 have ob:=sC (w:=w.drew) n (by unfold maxLen;omega);have n3:w.drew.heap.size=w.heap.size:=rfl;simp only[L130_2,zS,aS,fM,fj,jx,bv,od,ag,a8,ia,C,b3,jJ (P:=prog) (kl:= .i64) (kc:= .i64) (n:=n) Tryz.underlying139 a9 b1 (by rw[D];omega) (by rw[b2];omega) dy,b4];generalize E:w.drew.alloc (.cells (fE (List.replicate n 0)).toArray 33)=H at*;have y:ad [] w.drew H:=by rw[<- E];exact(ad.refl _ _).alloc _
 have sA:H.heap.size=w.heap.size+1:=by rw[<- E,ah,n3]
 have J:=(fJ p.1.words).frame a7 (aW.bV y ck) (λ_ _ h=>h);obtain⟨xs,Fs,q1,q2,q3,q4⟩:=J;have c6:=bu y Y;have fin:∀(x2:Value) (e:World),e.ownsRow 0 139 1 x2 (p.1.words.length+1) (xs++ [.slice (some ⟨w.drew.heap.size,0,none⟩) n n])->H.grownBy e X.ownBlock->iB H X x2->
   ao (hp e g) (0+9)=some (.slice (some ⟨b,0,none⟩) x.rgs.length c)/\dE prog (Instr.storeAt 97 (.pointer (some ⟨b,i*8+6,none⟩)) x2) e λw'=>P130_4 (bU g) (bS i) (bU g11) (bS need) w' λv w'=>v= .bool true/\∃F',iR w' g {x with rgs:=x.rgs.set i ({p.1 with words:=p.1.words++ [List.replicate n 0],off:=eI x.c.2.2.1 need,objs:=p.1.objs++ [want]},p.2)} F'/\aO F0 F' W w':=by
  intro x2 e s t a;have hy:fu H [jA (List.replicate n 0)] [.slice (some ⟨w.drew.heap.size,0,none⟩) n n] (λ_=>λb=>b=w.drew.heap.size):=⟨rfl,λk P v z hv=>by
   have d:=(ce.1 z).1;have:k=0:=by simp at d;omega
   subst this;cases z;cases hv;exact ob,λj k hj d c7=>by simp at hj d;omega⟩
  have b5:∀k,B k->k<w.heap.size:=λk d=>dV.lt (I.an T) (fm x) k (q k d);obtain⟨F5,g1,A,_⟩:=aL.grow (G:=λb=>b=w.drew.heap.size) (m:=1) ⟨xs,Fs,q1,q2,q3,q4⟩ (λP z=>by obtain⟨l,_,rfl⟩:=List.mem_map.1 z;exact ga l) (λP z=>by rw[dh.1 z];exact ga _) hy
   (λb=>⟨λh=>⟨0,by simp,h⟩,fun⟨_,_,h⟩=>h⟩) (λk d c8=>by have:=b5 k d;omega) (λc9 h'=>by rw[kM h' q1];exact s) t a
  have b6:aO B F5 w.drew e:=by
   refine⟨⟨A.aw.os.trans y.os,A.aw.tape.trans y.tape,A.aw.output.trans y.output,by have:=A.aw.size;omega,λk d hn=>?_⟩,λk d=>?_⟩
   ·rw[A.aw.block k dy (λh=>by rcases h with h|h;exact hn h;omega)];exact y.block k d (by simp)
   ·rcases A.sub k d with h|h
    ·rcases h with h|h
     ·exact .inl h
     ·exact .inr dy
    ·exact .inr dy
  have b7:eG (p.1.words++ [List.replicate n 0]) e F5 x2:=by
   rw[eG,cJ,List.map_append];exact g1
  obtain⟨b8,b9,c1,c2,F6,c3,K⟩:=r e F5 (eG (p.1.words++ [List.replicate n 0])) x2 ({p.1 with words:=p.1.words++ [List.replicate n 0]},p.2) b6 (fJ _) b7 rfl;refine⟨by rw[c2];exact Y,?_⟩;rw[st_97 (o:=i*8+6) b9 c1 b8];have L:=K.an (show hp w.drew g11=_ from Q) S;have f:=l_rAlloc4 (want:=want) (need:=need) (U.trans (K.pre T)) c3 (at_rr M) O L.1 L.2;rw[set_rr]at f;exact f
 repeat' (with_reducible apply And.intro)
 all_goals
  refine ps_97 (λu hu=>by simp only[dg,dk,or_false]at hu;rcases hu with rfl;rfl) q1 dy (cX _) λx2 e s t a=>?_;obtain⟨f1,f2⟩:=fin x2 e s t a;try simp only[zS,f1,ia,jx]
  exact f2
end
section
variable{W w:World}{g g7 g11:Nat}{m:dv}{F F0:Fp}{K:Nat}{o:ez}{h:eF}{i:Nat}{rg:eO}{want:eF}{need:Int}{r:jo}{nn:Nat}
def sH(m:dv)(ch:Int):Prop:=ch<0\/m.c.2.1<=ch\/jC m ch=true
instance (m:dv) (ch:Int):Decidable (sH m ch):=by unfold sH;infer_instance
theorem l_rAlloc0(U:aO F0 F W w)(I:iR w g (aP m) F)(H:Wf m K)(hK:K+1<=1000000)(hi:m.rgs[i]? =some rg)(h7:hp w g7=some (.cells (fI r).toArray 35))(a:hp w g11=some (.cells (bB want).toArray 32))(J:¬F g11):
  P130_0 (bU g) (bU g7) (bS i) (.bool (ef rg m.c.2.2.1 need)) (bU g11) (bS need) w λv w'=>
   v= .bool (if r=(0,want,0,0)/\(ef rg m.c.2.2.1 need=true\/¬sH m want.2.2.1)then true else false)/\∃F',iR w' g (aP (if r=(0,want,0,0)/\(ef rg m.c.2.2.1 need=true\/¬sH m want.2.2.1)then{m with rgs:=m.rgs.set i (lJ m.c.2.2.1 need rg want)}else m)) F'/\aO F0 F' W w':=by
 apply L130_0_ok;have a7:be prog .neq 35 (.tmp 81) (.tmp 83) (.agg (fI r).toArray) (.agg (fI (0,want,0,0)).toArray)=some (.bool (!decide (r=(0,want,0,0)))):=be_nrs r (0,want,0,0);have W1:=H.w1;have W2:=H.w2;have R0:=H.rg rg (cD hi);have L:(aP m).rgs[i]? =some (rg,fO m rg.nm):=by rw[rgs_rf,hi];rfl
 have M:=(ce.1 L).1;have z:ad [] w w.drew:=(ad.refl _ _).drew;have O:rg.objs.length<=1000000:=cQ R0.ol dy;simp only[L130_0,eW h7,jh a,bdr_1,a7,ac];by_cases A:r=(0,want,0,0)
 ·cases hf:ef rg m.c.2.2.1 need with
  |true=>
   have Q:r=(0,want,0,0)/\(true=true\/¬sH m want.2.2.1):=⟨A,.inl rfl⟩
   rw[bX Q,bX Q];obtain⟨f1,f2,f3,f4⟩:=pV hf;obtain⟨b,c,v,Fk,hl,a8,_,_,q,hv,d⟩:=(I.an z).qY L (k:=3) dy (P:=iT rg.off) rfl;rw[hv.1]at q;have C:ao (hp w g) (0+9)=some (.slice (some ⟨b,0,none⟩) (aP m).rgs.length c):=hl;have j:ao (hp w b) (i*8+3)=some (bS rg.off):=q;have ia:=qO (b:=b) (c:=c) M;obtain⟨ok,_,_,_,F1,t1,S⟩:=d w.drew ck (iT (rg.off+need)) (bS (rg.off+need)) ({rg with off:=rg.off+need},fO m rg.nm) (aO.none hv.2 _) (bH _ _) ⟨rfl,λ_ h=>h⟩ rfl;have t:=S.an (show hp w.drew g11=_ from a) J;have fin:=l_rAlloc1 (want:=want) (U.trans (S.pre z)) t1 (at_rr L) O t.1;rw[set_rr]at fin;simp only[cj A,zS,aS,mN,bv,ag,C,ia,j,aj,ap (n:=rg.off+need) dy dy];rw[hC (o:=i*8+3) rfl rfl ok];have eg:lJ m.c.2.2.1 need rg want={rg with off:=rg.off+need,objs:=rg.objs++ [want]}:=by rw[lJ,hf];rfl
   have er:=rf_setRg m hi (r':={rg with off:=rg.off+need,objs:=rg.objs++ [want]}) rfl;rw[eg,er];exact fin
  |false=>
   obtain⟨s,gn,rv,dd,hh,R⟩:=I.rd;have T:ao (hp w g) (0+0+1)=some (bS m.c.2.1):=R.c 1 dy;have e2:(bB want).toArray[0+2]? =some (bS want.2.2.1):=rfl;have D:sH m want.2.2.1->¬(r=(0,want,0,0)/\(false=true\/¬sH m want.2.2.1)):=λhb ⟨_,h⟩=>by
    rcases h with h|h
    ·cases h
    ·exact h hb
   by_cases V:want.2.2.1<0
   ·have l:=D (.inl V);simp only[cj A,zS,fy,ag,a,e2,V];rw[bY l,bY l];exact⟨by first|rfl|trivial,F,iR.an I z,U.post z⟩
   by_cases n1:m.c.2.1<=want.2.2.1
   ·have l:=D (.inr (.inl n1));simp only[cj A,zS,fy,ag,a,e2,V,fM,jK,T,n1];rw[bY l,bY l];exact⟨by first|rfl|trivial,F,iR.an I z,U.post z⟩
   simp only[cj A,zS,fy,ag,a,e2,V,fM,jK,T,n1];refine(c_rTaken (R.an z) (by rw[rf_len];exact cQ H.rl dy) (λp hp=>by
    obtain⟨y,hy,rfl⟩:=List.mem_map.1 hp;exact cQ (H.rg y hy).cl dy) want.2.2.1).mono ?_
   rintro _ E ⟨rfl,c5⟩;rw[rf_taken];have x:=z.trans c5;have B:=x.at a (by simp);cases ht:jC m want.2.2.1 with
   |true=>
    have l:=D (.inr (.inr ht));simp only[zS];rw[bY l,bY l];exact⟨by first|rfl|trivial,F,iR.an I x,U.post x⟩
   |false=>
    have nb:¬sH m want.2.2.1:=by
     rintro(h1|h1|h1)
     ·exact V h1
     ·exact n1 h1
     ·rw[ht]at h1;cases h1
    have Q:r=(0,want,0,0)/\(false=true\/¬sH m want.2.2.1):=⟨A,.inr nb⟩
    have a9:ad [] E E.drew:=(ad.refl _ _).drew;have X:=x.trans a9;obtain⟨b,c,v,Fk,hl,a8,_,b4,q,hv,d⟩:=(iR.an I X).qY L (k:=5) dy (P:=eP rg.chunks) rfl;have C:ao (hp E g) (0+9)=some (.slice (some ⟨b,0,none⟩) (aP m).rgs.length c):=hl;have j:ao (hp E b) (i*8+5)=some v:=q;have ia:=qO (b:=b) (c:=c) M;obtain⟨Y,_⟩:=fD hv;have b5:=R0.cl;simp only[zS,aS,lF,bv,aH,C,ia,j,B,e2];rw[bX Q,bX Q];have fin:∀(x1:Value) (w2:World),w2.ownsRow 0 3 1 x1 (rg.chunks.length+1) (ints rg.chunks++ [bS want.2.2.1])->E.drew.grownBy w2 v.ownBlock->iB E.drew v x1->
      ao (hp w2 g) (0+9)=some (.slice (some ⟨b,0,none⟩) (aP m).rgs.length c)/\dE prog (Instr.storeAt 22 (.pointer (some ⟨b,i*8+5,none⟩)) x1) w2 λw'=>P130_2 (bU g) (bS i) (bU g11) (bS need) w' λv w'=>v= .bool true/\∃F',iR w' g (aP {m with rgs:=m.rgs.set i (lJ m.c.2.2.1 need rg want)}) F'/\aO F0 F' W w':=by
     intro x1 w2 ho hg G;obtain⟨F2,b1,b2⟩:=mq (vs:= [Value.int .i64 want.2.2.1]) hv ho hg G;have Z:eP (rg.chunks++ [want.2.2.1]) w2 F2 x1:=by
      rw[eP,cJ];have e:ints (rg.chunks++ [want.2.2.1])=ints rg.chunks++ [Value.int .i64 want.2.2.1]:=by simp[ints]
      rw[e];exact b1
     obtain⟨ok,s1,s2,b3,F3,t1,S⟩:=d w2 F2 (eP (rg.chunks++ [want.2.2.1])) x1 ({rg with chunks:=rg.chunks++ [want.2.2.1]},fO m rg.nm) b2 (bq _) Z rfl;refine⟨by rw[b3];exact hl,?_⟩;rw[sj (o:=i*8+5) s1 s2 ok];have t:=S.an (show hp E.drew g11=_ from B) J;have f:=l_rAlloc2 (want:=want) (need:=need) (U.trans (S.pre X)) t1 (at_rr L) O (by have:=R0.wl;simp only;omega) (by show 0<=m.c.2.2.1;omega) W2 t.1 t.2;rw[set_rr]at f;have eg:lJ m.c.2.2.1 need rg want={rg with chunks:=rg.chunks++ [want.2.2.1],words:=rg.words++ [List.replicate m.c.2.2.1.toNat 0],off:=eI m.c.2.2.1 need,objs:=rg.objs++ [want]}:=by rw[lJ,hf];rfl
     have er:=rf_setRg m hi (r':={rg with chunks:=rg.chunks++ [want.2.2.1],words:=rg.words++ [List.replicate m.c.2.2.1.toNat 0],off:=eI m.c.2.2.1 need,objs:=rg.objs++ [want]}) rfl;rw[eg,er];exact f
    repeat' (with_reducible apply And.intro)
    all_goals
     refine ps_22 (λu hu=>by simp only[dg,dk,or_false]at hu;rcases hu with rfl;rfl) Y dy (cX _) λx1 w2 ho hg G=>?_;obtain⟨f1,f2⟩:=fin x1 w2 ho hg G;try simp only[zS,f1,ia,lF]
     exact f2
 ·have l:∀{P:Prop},¬(r=(0,want,0,0)/\P):=λh=>A h.1;simp only[cr A,zS];rw[bY l,bY l];exact⟨by first|rfl|trivial,F,I,U⟩
theorem c_rAlloc(I:iR w g (aP m) F)(X:Wf m K)(hK:K+1<=1000000)(o:ez)(h:eF)(r:jo)(hf:ek m.rgs (dW h)=some i):
  aa prog 130 [bU g,.agg (dC o).toArray,.agg (bB h).toArray,.agg (fI r).toArray] w λv w'=>v= .bool (gB m o.2.2.2.1 h r).1/\∃F',iR w' g (aP (gB m o.2.2.2.1 h r).2) F'/\aO F F' w w':=by
 apply F130_ok;obtain⟨x,H,d8⟩:=ox hf;have R0:=X.rg x (cD H);have W1:=X.w1;have W2:=X.w2;have hx:(aP m).rgs[i]? =some (x,fO m x.nm):=by rw[rgs_rf,H];rfl
 have b3:=(ce.1 hx).1;have B:(aP m).rgs.length<=1000000:=by rw[rf_len];exact cQ X.rl dy
 have gv:gB m o.2.2.2.1 h r=if ef x m.c.2.2.1 (bW x.cls o.2.2.2.1)=false/\r=bL 6 then(true,m)
   else if ef x m.c.2.2.1 (bW x.cls o.2.2.2.1)=false/\(r.2.1.2.2.1<0\/m.c.2.1<=r.2.1.2.2.1\/jC m r.2.1.2.2.1=true)then(false,m)
   else if r=(0,ou m.c.2.2.1 (bW x.cls o.2.2.2.1) o.2.2.2.1 x h r.2.1.2.2.1,0,0)then(true,{m with rgs:=m.rgs.set i (lJ m.c.2.2.1 (bW x.cls o.2.2.2.1) x (ou m.c.2.2.1 (bW x.cls o.2.2.2.1) o.2.2.2.1 x h r.2.1.2.2.1))})
   else(false,m):=by
  rw[gB,hf];simp only[H]
 simp only[F130,ak,au,ah];generalize Y:((w.alloc (.cells (dC o).toArray 37)).alloc _).alloc _=w1;have c1:ad [] w w1:=by rw[<- Y];exact(((ad.refl _ _).alloc _).alloc _).alloc _
 have b5:hp w1 w.heap.size=some (.cells (dC o).toArray 37):=by rw[<- Y,af,ah,ah,bY dy,af,ah,bY dy,af,bX rfl]
 have b6:hp w1 (w.heap.size+1)=some (.cells (bB h).toArray 32):=by rw[<- Y,af,ah,ah,bY dy,af,ah,bX rfl]
 have b7:hp w1 (w.heap.size+1+1)=some (.cells (fI r).toArray 35):=by rw[<- Y,af,ah,ah,bX rfl]
 clear Y;obtain⟨s,gn,rv,dd,hh,R⟩:=(I.an c1).rd;have e0:(bB h).toArray[0+0]? =some (bS h.1):=rfl;have e1:(bB h).toArray[0+1]? =some (bS h.2.1):=rfl;simp only[zS,bG,gR,ag,b6,e0,e1];refine(c_rFind R (dW h) B).step ?_;rw[findX_rf,hf];simp only[ixR,zS,bm,ag,b5,mm];refine(c_rFits R hx B o.2.2.2.1).mono ?_;rintro _ w2 ⟨rfl,c2⟩;have j:=c1.trans c2;have d5:=c2.at b5 (by simp);have d6:=c2.at b6 (by simp);have d7:=c2.at b7 (by simp);have b4:be prog .eql 35 (.tmp 24) (.tmp 25) (.agg (fI r).toArray) (.agg (fI (bL 6)).toArray)=some (.bool (decide (r=bL 6))):=be_rs r (bL 6);have Z:ef (x,fO m x.nm).1 (aP m).c.2.2.1 (bW (x,fO m x.nm).1.cls o.2.2.2.1)=ef x m.c.2.2.1 (bW x.cls o.2.2.2.1):=rfl;rw[Z];simp only[eW d7,tO,b4,ac];by_cases r6:r=bL 6
 ·simp only[cj r6,zS];cases a:ef x m.c.2.2.1 (bW x.cls o.2.2.2.1)with
  |true=>
   rw[a,bY (by simp),bY (by simp),bY (by rw[r6];intro e;have:=congrArg (λq:jo=>q.1) e;simp[bL]at this)]at gv;rw[gv];exact⟨rfl,F,I.an j,aO.bV j⟩
  |false=>
   rw[bX ⟨a,r6⟩]at gv;rw[gv];exact⟨rfl,F,I.an j,aO.bV j⟩
 rw[bY (λh=>r6 h.2)]at gv;have b8:ai prog (Instr.build 32 #[(0,bS h.1),(1,bS h.2.1),(2,bS r.2.1.2.2.1),(4,bS o.2.2.2.1)])=some (.agg (bB (h.1,h.2.1,r.2.1.2.2.1,0,o.2.2.2.1)).toArray):=tK;simp only[cr r6,zS,fy,lh,ag,d5,d6,d7,e0,e1,rs_3,mm,b8,al_32];rw[st_hn (c:=(bB kY).toArray) (e:=32) (by rw[af,bX rfl];rfl) rfl];generalize J:put (w2.alloc _) w2.heap.size _ _=f;have C:ad [] w2 f:=by rw[<- J];exact((ad.refl _ _).alloc _).put (.inr (cy _)) _ _
 have M:hp f w2.heap.size=some (.cells (bB (h.1,h.2.1,r.2.1.2.2.1,0,o.2.2.2.1)).toArray 32):=by rw[<- J];exact aq (by simp) _ _
 clear J;have b9:=j.trans C;have f5:=C.at d5 (by simp);have f7:=C.at d7 (by simp);have s2:=j.size;have nF:∀{y},w.heap.size<=y->¬F y:=λhy=>I.notF hy;obtain⟨b,c,a7,⟨cv,wv,ov,Q⟩,_⟩:=rf_flag (I.an b9) H;have ia:=qO (b:=b) (c:=c) b3;have u:ad [] f f.drew:=(ad.refl _ _).drew;simp only[zS,aS,fa_250_2,bv,ag,a7,ia,Q.c2,f5,mm];refine(c_rRound x.cls o.2.2.2.1 f.drew).step ?_;have k:∀(want:eF) p,ad [] w2 p->hp p w2.heap.size=some (.cells (bB want).toArray 32)->
   P130_0 (bU g) (.pointer (some ⟨w.heap.size+1+1,0,none⟩)) (bS i) (.bool (ef x m.c.2.2.1 (bW x.cls o.2.2.2.1))) (bU w2.heap.size) (bS (bW x.cls o.2.2.2.1)) p λv w'=>
    v= .bool (if r=(0,want,0,0)/\(ef x m.c.2.2.1 (bW x.cls o.2.2.2.1)=true\/¬sH m want.2.2.1)then true else false)/\∃F',iR w' g (aP (if r=(0,want,0,0)/\(ef x m.c.2.2.1 (bW x.cls o.2.2.2.1)=true\/¬sH m want.2.2.1)then{m with rgs:=m.rgs.set i (lJ m.c.2.2.1 (bW x.cls o.2.2.2.1) x want)}else m)) F'/\aO F F' w w':=by
  intro want p c6 O;have a8:=j.trans c6;exact l_rAlloc0 (aO.bV a8) (I.an a8) X hK H (c6.at d7 (by simp)) O (nF dy)
 cases a:ef x m.c.2.2.1 (bW x.cls o.2.2.2.1)with
 |true=>
  rw[a]at k;obtain⟨f1,f2,f3,f4⟩:=pV a;have ew:ou m.c.2.2.1 (bW x.cls o.2.2.2.1) o.2.2.2.1 x h r.2.1.2.2.1=(h.1,h.2.1,iO x.chunks,x.off,o.2.2.2.1):=by rw[ou,a];rfl
  rw[a,ew]at gv;simp only[Bool.true_eq_false,false_and,if_false]at gv;have tl:∀p,ad [] w2 p->hp p w2.heap.size=some (.cells (bB (h.1,h.2.1,iO x.chunks,x.off,o.2.2.2.1)).toArray 32)->
    P130_0 (bU g) (.pointer (some ⟨w.heap.size+1+1,0,none⟩)) (bS i) (.bool true) (bU w2.heap.size) (bS (bW x.cls o.2.2.2.1)) p λv w'=>v= .bool (gB m o.2.2.2.1 h r).1/\∃F',iR w' g (aP (gB m o.2.2.2.1 h r).2) F'/\aO F F' w w':=by
   intro p c6 O;have t:=k _ p c6 O;rw[gv];by_cases z:r=(0,(h.1,h.2.1,iO x.chunks,x.off,o.2.2.2.1),0,0)
   ·have ct:r=(0,(h.1,h.2.1,iO x.chunks,x.off,o.2.2.2.1),0,0)/\(true=true\/¬sH m (iO x.chunks)):=⟨z,.inl rfl⟩
    rw[bX ct,bX ct]at t;rw[bX z];exact t
   ·have D:¬(r=(0,(h.1,h.2.1,iO x.chunks,x.off,o.2.2.2.1),0,0)/\(true=true\/¬sH m (iO x.chunks))):=λh=>z h.1;rw[bY D,bY D]at t;rw[bY z];exact t
  have a9:∀d L,hp d w2.heap.size=some (.cells (bB (h.1,h.2.1,r.2.1.2.2.1,0,o.2.2.2.1)).toArray 32)->dE prog (Instr.storeAt 3 (.pointer (some ⟨w2.heap.size,0+2,none⟩)) (bS (iO x.chunks))) d L=L (put d w2.heap.size (bB (h.1,h.2.1,iO x.chunks,0,o.2.2.2.1)).toArray 32):=by
   intro d L P;rw[hC (o:=0+2) rfl rfl (by rw[P];rfl),P];rfl
  have b1:∀d L,hp d w2.heap.size=some (.cells (bB (h.1,h.2.1,iO x.chunks,0,o.2.2.2.1)).toArray 32)->dE prog (Instr.storeAt 3 (.pointer (some ⟨w2.heap.size,0+3,none⟩)) (bS x.off)) d L=L (put d w2.heap.size (bB (h.1,h.2.1,iO x.chunks,x.off,o.2.2.2.1)).toArray 32):=by
   intro d L P;rw[hC (o:=0+3) rfl rfl (by rw[P];rfl),P];rfl
  have Qd:∀d,ad [] w2 d->∃A S,ao (hp d g) (0+9)=some (.slice (some ⟨b,0,none⟩) (aP m).rgs.length c)/\ao (hp d b) (i*8+3)=some (bS x.off)/\ao (hp d b) (i*8+5)=some (.slice A x.chunks.length S)/\rr .i64 d A x.chunks:=by
   intro d c5;obtain⟨b',c',l,⟨d9,e2,e4,Q'⟩,_⟩:=rf_flag (I.an (j.trans c5)) H;obtain⟨b0,c0,U,_,_⟩:=rf_flag (I.an j) H;have e3:=bu C U;rw[a7]at e3;cases e3;rw[bu c5 U]at l;cases l;obtain⟨A,S,rfl,V⟩:=lI Q'.cT;exact⟨A,S,bu c5 U,Q'.c3,Q'.c5,V⟩
  obtain⟨A,S,z1,z2,z3,V⟩:=Qd f.drew (C.trans u);have c4:ao (hp f g) (0+9)=some (.slice (some ⟨b,0,none⟩) (aP m).rgs.length c):=z1;have c7:ao (hp f b) (i*8+3)=some (bS x.off):=z2;have c8:ao (hp f b) (i*8+5)=some (.slice A x.chunks.length S):=z3;have W:x.chunks[x.chunks.length-1]? =some (iO x.chunks):=by
   rw[iO,bY dy,cu,bZ (show x.chunks.length-1<x.chunks.length by omega)];rfl
  obtain⟨q,q1,q2⟩:=int_at (c:=S) V W;have c9:(x.chunks.length:Int)-1=((x.chunks.length-1:Nat):Int):=dy;have e5:=R0.cl;have T:∀d,ad [] w2 d->hp d w2.heap.size=some (.cells (bB (h.1,h.2.1,r.2.1.2.2.1,0,o.2.2.2.1)).toArray 32)->
    hp (put d w2.heap.size (bB (h.1,h.2.1,iO x.chunks,0,o.2.2.2.1)).toArray 32) w2.heap.size=some (.cells (bB (h.1,h.2.1,iO x.chunks,0,o.2.2.2.1)).toArray 32)/\
    ao (hp (put d w2.heap.size (bB (h.1,h.2.1,iO x.chunks,0,o.2.2.2.1)).toArray 32) g) (0+9)=some (.slice (some ⟨b,0,none⟩) (aP m).rgs.length c)/\
    ao (hp (put d w2.heap.size (bB (h.1,h.2.1,iO x.chunks,0,o.2.2.2.1)).toArray 32) b) (i*8+3)=some (bS x.off)/\
    P130_0 (bU g) (.pointer (some ⟨w.heap.size+1+1,0,none⟩)) (bS i) (.bool true) (bU w2.heap.size) (bS (bW x.cls o.2.2.2.1)) (put (put d w2.heap.size (bB (h.1,h.2.1,iO x.chunks,0,o.2.2.2.1)).toArray 32) w2.heap.size (bB (h.1,h.2.1,iO x.chunks,x.off,o.2.2.2.1)).toArray 32) λv w'=>v= .bool (gB m o.2.2.2.1 h r).1/\∃F',iR w' g (aP (gB m o.2.2.2.1 h r).2) F'/\aO F F' w w':=by
   intro d c5 P;have h6:hp (put d w2.heap.size (bB (h.1,h.2.1,iO x.chunks,0,o.2.2.2.1)).toArray 32) w2.heap.size=_:=aq (az P) _ _;have b2:ad [] w2 (put d w2.heap.size (bB (h.1,h.2.1,iO x.chunks,0,o.2.2.2.1)).toArray 32):=c5.put (.inr (cy _)) _ _;obtain⟨A6,e6,y1,y2,_,_⟩:=Qd _ b2;exact⟨h6,y1,y2,tl _ (b2.put (.inr (cy _)) _ _) (aq (az h6) (bB (h.1,h.2.1,iO x.chunks,x.off,o.2.2.2.1)).toArray 32)⟩
  have E:hp f.drew w2.heap.size=some (.cells (bB (h.1,h.2.1,r.2.1.2.2.1,0,o.2.2.2.1)).toArray 32):=M;have G:hp f.drew.drew w2.heap.size=some (.cells (bB (h.1,h.2.1,r.2.1.2.2.1,0,o.2.2.2.1)).toArray 32):=M;obtain⟨h6,y1,y2,t⟩:=T f.drew (C.trans u) E;obtain⟨d1,d2,d3,te⟩:=T f.drew.drew (C.trans u).drew G;have e7:ao (hp f.drew.drew g) (0+9)=some (.slice (some ⟨b,0,none⟩) (aP m).rgs.length c):=z1;have e8:ao (hp f.drew.drew b) (i*8+3)=some (bS x.off):=z2;have e9:ao (hp f.drew.drew b) (i*8+5)=some (.slice A x.chunks.length S):=z3;have f6:fR prog 3 (.pointer (some q)) f.drew=some (bS (iO x.chunks)):=q2;have d4:fR prog 3 (.pointer (some q)) f.drew.drew=some (bS (iO x.chunks)):=q2;simp only[zS,mN,lF,ib,aH,ag,c4,c7,c8,ia,aK,aZ,c9,ap (n:=((x.chunks.length-1:Nat):Int)) dy dy,q1,d4];repeat' (with_reducible apply And.intro)
  all_goals first
   |(rw[a9 _ _ E]
     try simp only[zS,aS,mN,bv,ag,y1,y2,ia]
     rw[b1 _ _ h6];exact t)
   |(rw[a9 _ _ G]
     try simp only[zS,mN,ag,d2,d3,ia]
     rw[b1 _ _ d1];exact te)
 |false=>
  rw[a]at k;have ew:ou m.c.2.2.1 (bW x.cls o.2.2.2.1) o.2.2.2.1 x h r.2.1.2.2.1=(h.1,h.2.1,r.2.1.2.2.1,0,o.2.2.2.1):=by rw[ou,a];rfl
  rw[a,ew]at gv;simp only[true_and]at gv;have t:=k _ f.drew (C.trans u) (show hp f.drew w2.heap.size=_ from M);simp only[zS];rw[gv];by_cases hb:sH m r.2.1.2.2.1
  ·have l:r.2.1.2.2.1<0\/m.c.2.1<=r.2.1.2.2.1\/jC m r.2.1.2.2.1=true:=hb;have D:¬(r=(0,(h.1,h.2.1,r.2.1.2.2.1,0,o.2.2.2.1),0,0)/\(false=true\/¬sH m r.2.1.2.2.1)):=fun⟨_,h⟩=>by
    rcases h with h|h
    ·cases h
    ·exact h hb
   rw[bY D,bY D]at t;rw[bX l];exact t
  ·have l:¬(r.2.1.2.2.1<0\/m.c.2.1<=r.2.1.2.2.1\/jC m r.2.1.2.2.1=true):=hb;rw[bY l];by_cases z:r=(0,(h.1,h.2.1,r.2.1.2.2.1,0,o.2.2.2.1),0,0)
   ·have ct:r=(0,(h.1,h.2.1,r.2.1.2.2.1,0,o.2.2.2.1),0,0)/\(false=true\/¬sH m r.2.1.2.2.1):=⟨z,.inr hb⟩
    rw[bX ct,bX ct]at t;rw[bX z];exact t
   ·have D:¬(r=(0,(h.1,h.2.1,r.2.1.2.2.1,0,o.2.2.2.1),0,0)/\(false=true\/¬sH m r.2.1.2.2.1)):=λh=>z h.1;rw[bY D,bY D]at t;rw[bY z];exact t
end
section
variable{w:World}{g:Nat}{m:dv}{F:Fp}{K:Nat}
theorem c_rDo(I:iR w g (aP m) F)(L:Wf m K)(k:Wn m K)(Z:K+1<=1000000)(n:Int)(o:ez)(h:eF)(r:jo):
  aa prog 83 [bU g,bS n,.agg (dC o).toArray,.agg (bB h).toArray,.agg (fI r).toArray] w λv w'=>v= .bool (lY m n o h r).1/\∃F',iR w' g (aP (lY m n o h r).2) F'/\aO F F' w w':=by
 apply F83_ok;simp only[F83,ak,au,ah];generalize p:((w.alloc (.cells (dC o).toArray 37)).alloc _).alloc _=w1;have Q:ad [] w w1:=by rw[<- p];exact(((ad.refl _ _).alloc _).alloc _).alloc _
 have S:hp w1 w.heap.size=some (.cells (dC o).toArray 37):=by rw[<- p,af,ah,ah,bY dy,af,ah,bY dy,af,bX rfl]
 have a8:hp w1 (w.heap.size+1)=some (.cells (bB h).toArray 32):=by rw[<- p,af,ah,ah,bY dy,af,ah,bX rfl]
 have a9:hp w1 (w.heap.size+1+1)=some (.cells (fI r).toArray 35):=by rw[<- p,af,ah,ah,bX rfl]
 clear p;have j:∀w',hp w' w.heap.size=some (.cells (dC o).toArray 37)->fR prog 37 (bU w.heap.size) w'=some (.agg (dC o).toArray):=λw' p=>aR (t:=37) (c:=(dC o).toArray) tJ (show(Tryz.prog.info? 37).map (·.size)=some (dC o).toArray.size from nZ) p;simp only[ac,j _ S];refine(c_refMay o w1).mono ?_;rintro _ w2 ⟨rfl,M⟩;have b:=Q.trans M;have b7:=M.at S (by simp);have b8:=M.at a8 (by simp);obtain⟨s,gn,rv,dd,hh,R⟩:=(I.an b).rd;have B:ao (hp w2 g) (0+0+0)=some (bS m.c.1):=R.c 0 dy;have u:jQ m n o=false->lY m n o h r=(false,m):=λe=>by rw[lY,bX e]
 cases C:jz o with
 |false=>
  simp only[zS];rw[u (by simp[jQ,C])];exact⟨by first|rfl|trivial,F,I.an b,aO.bV b⟩
 |true=>
 by_cases T:n<0
 ·simp only[zS,T];rw[u (by simp only[jQ,Bool.and_eq_false_iff,decide_eq_false_iff_not];omega)];exact⟨by first|rfl|trivial,F,I.an b,aO.bV b⟩
 by_cases n1:m.c.1<=n
 ·simp only[zS,T,fM,eS,ag,B,n1];have:=k.cw;rw[u (by simp only[jQ,Bool.and_eq_false_iff,decide_eq_false_iff_not];omega)];exact⟨by first|rfl|trivial,F,I.an b,aO.bV b⟩
 obtain⟨nn,rfl⟩:=Int.eq_ofNat_of_zero_le (show 0<=n by omega);have y:jQ m nn o=true:=by
  have:=k.cw;rw[jQ,C,cj (show(0:Int)<=nn by omega),cj (show(nn:Int)<m.hands.length by omega)];rfl
 obtain⟨d,U⟩:=may_hd y;have V:m.hands[nn]? =some d:=U;simp only[zS,T,fM,eS,ag,B,n1,j _ b7,jh b8];refine(c_rMust (I.an b) L dy y h).mono ?_;rintro _ O ⟨rfl,c3⟩;have D:=M.trans c3;have b1:=Q.trans D;simp only[jk,jm,zS,sn];rw[hI (c:=(fI lV).toArray) (e:=35) (by rw[af,bX rfl];rfl) rfl];generalize z:put (O.alloc _) O.heap.size _ _=w4;have c4:ad [] O w4:=by rw[<- z];exact((ad.refl _ _).alloc _).put (.inr (cy _)) _ _
 have W:hp w4 O.heap.size=some (.cells (fI (dI m nn o h).1).toArray 35):=by rw[<- z];exact aq (by simp) _ _
 clear z;have l:=D.trans c4;have a:=Q.trans l;have E:=l.at S (by simp);have d8:=l.at a8 (by simp);have P:=l.at a9 (by simp);have X:be prog .neq 35 (.tmp 39) (.tmp 40) (.agg (fI r).toArray) (.agg (fI (dI m nn o h).1).toArray)=some (.bool (!decide (r=(dI m nn o h).1))):=be_nrs r _;cases Y:(dI m nn o h).2 with
 |true=>
  simp only[zS,eW P,eW W,X];have f:lY m nn o h r=if r=(dI m nn o h).1 then(true,if r.1=0 then fF m nn o h else m)else(false,m):=by rw[lY,bY (by rw[y];simp),bX Y]
  by_cases G:r=(dI m nn o h).1
  ·rw[bX G]at f;simp only[cj G,zS,mz,jy,P,rs_0];by_cases H:r.1=0
   ·rw[bX H]at f;have e0:(r.1==0)=true:=by rw[H];rfl
    have A:=must_fine y U (by rw[<- G];exact H);simp only[e0,zS,j _ E,jh d8];refine(c_rDoes (I.an a) L dy k y V A).mono ?_;rintro _ w5 ⟨rfl,F5,J,u5⟩;apply L83_0_ok;rw[f];exact⟨rfl,F5,J,u5.pre a⟩
   ·rw[bY H]at f;simp only[bn H,zS];apply L83_0_ok;rw[f];exact⟨rfl,F,I.an a,aO.bV a⟩
  ·rw[bY G]at f;simp only[cr G,zS];rw[f];exact⟨by first|rfl|trivial,F,I.an a,aO.bV a⟩
 |false=>
  obtain⟨A,hk⟩:=must_open y U Y;have f:lY m nn o h r=if o.1=1 then cx m o.2.2.2.1 r else gB m o.2.2.2.1 h r:=by rw[lY,bY (by rw[y];simp),bY (by rw[Y];simp)]
  by_cases k1:o.1=1
  ·rw[bX k1]at f;have q:(o.1==1)=true:=by rw[k1];rfl
   simp only[zS,am,ag,E,aJ,q,eW P,j _ E];refine(c_rCreate (I.an a) L k Z o r).mono ?_;rintro _ w5 ⟨rfl,F5,J,u5⟩;rw[f];exact⟨rfl,F5,J,u5.pre a⟩
  ·rw[bY k1]at f;obtain⟨i,x,hf,_,_,_⟩:=pX A dy;simp only[zS,am,ag,E,aJ,bn k1,eW P,jh d8,j _ E];refine(c_rAlloc (I.an a) L Z o h r hf).mono ?_;rintro _ w5 ⟨rfl,F5,J,u5⟩;rw[f];exact⟨rfl,F5,J,u5.pre a⟩
end
theorem rd_chgP{F:Fp}{w w':World}{A:Option Addr}{cs:List Value}(h:ed w A cs)(d:aW F w w')(e:∀p,A=some p->cs≠ []->¬F p.block):ed w' A cs:=λj u b=>by
 obtain⟨p,hp,a⟩:=h j u b;have c:(p.add j).block=p.block:=by unfold Addr.add;split<;>rfl
 have f:=e p hp λh=>by rw[h]at b;simp at b
 have:w'.heap[(p.add j).block]? =w.heap[(p.add j).block]? :=d.block (p.add j).block (qt a) (by rw[c];exact f);refine⟨p,hp,?_⟩;unfold World.cell? at a⊢;rw[this];exact a
section
variable{W w w':World}{F F':Fp}{A:Option Addr}{E:List EvV}{l:List dR}{g K:Nat}{m:dv}
theorem At.ldre{b:Nat}{s:dR}{e:TypeId}(h:hp w b=some (.cells (jV s) e)):fR prog 35 (.pointer (some ⟨b,0+12,none⟩)) w=some (.agg (fI s.re).toArray):=by
 rw[ld_35,h];rfl
theorem sI{a b c:World}{F F':Fp}(h:ad [] a b)(u:aO F F' b c)(e:∀k,F k->a.heap.size<=k):ad [] a c:=
 ⟨u.aw.os.trans h.os,u.aw.tape.trans h.tape,u.aw.output.trans h.output,cQ h.size u.aw.size,λk d f=>(u.aw.block k (cY d h.size) λg=>by have:=e k g;omega).trans (h.block k d f)⟩
theorem sJ{a b c:World}{F F':Fp}(h:ad [] a b)(u:aO F F' b c)(d:∀k,F k->a.heap.size<=k):∀k,F' k->a.heap.size<=k:=λk e=>by
 rcases u.sub k e with h1|h1
 ·exact d k h1
 ·have:=h.size;omega
end
section
variable{W w w':World}{F F':Fp}{A:Option Addr}{E:List EvV}{l:List dR}{g K:Nat}{m:dv}
end
def pY(l:List dR)(put:List Int):Bool:=(List.range l.length).all λk=>match l[k]? with|some s=> !(decide (0<=s.rs)&& !put.contains (k:Int))|none=>true
def kq(l:List dR)(put:List Int)(i:Nat):Bool:=((List.range l.length).all λk=>match l[k]?,l[i]? with|some a,some s=> !(decide (0<=a.rs)&&(!put.contains (k:Int)&&ahead a s))|_,_=>true)&& !put.contains (i:Int)
abbrev SkO:=Bool×List Int×Int×Bool
def po(l:List dR)(m:dv)(s:dR):Option jo:=if s.rs<0/\s.pt<0 then(if(dI m s.wk s.op (bO l s)).2=true then some (dI m s.wk s.op (bO l s)).1 else none)else some s.re
def pq(rec:dv->List Int->Int->SkO)(l:List dR)(top:Int)(m:dv)(put:List Int):List Nat->Int->SkO
 | [],t=>(false,put,t,false)
 |i::is,t=>
  if kq l put i=false then pq rec l top m put is t else
  match l[i]? with
  |none=>(false,put,t,false)
  |some s=>
   match po l m s with
   |none=>pq rec l top m put is t
   |some r=>
    if top<=t then(false,put,t,true)else
    if(lY m s.wk s.op (bO l s) r).1=false then pq rec l top m put is (t+1)else
    match rec (lY m s.wk s.op (bO l s) r).2 (put++ [(i:Int)]) (t+1)with
    |(true,p',t',mn)=>(true,p',t',mn)
    |(false,p',t',true)=>(false,p',t',true)
    |(false,p',t',false)=>pq rec l top m put is t'
def dQ(l:List dR)(top:Int):Nat->dv->List Int->Int->SkO
 |0,_,put,t=>(false,put,t,false)
 |f+1,m,put,t=>if pY l put=true then(true,put,t,false)else pq (dQ l top f) l top m put (List.range l.length) t
noncomputable def dU(c:cP)(l:List dR)(most:Int):List Int×Int:=
 if hY c=true/\nL l=true/\l.length<=12 then
  match dQ l (max most 0) (l.length+1) (oy c true) [] 0 with
  |(true,p,_,_)=>(p,0)
  |(false,_,_,true)=>([],11)
  |(false,_,_,false)=>([],10)
 else([],1)
theorem goV_put{rec:dv->List Int->Int->SkO}{l:List dR}{top:Int}{m:dv}{put:List Int}:∀{is:List Nat} {t:Int},(pq rec l top m put is t).1=false->(pq rec l top m put is t).2.2.2=false->(pq rec l top m put is t).2.1=put
 | [],t,_,_=>rfl
 |i::is,t,a,c=>by
  unfold pq at a c⊢;split
  ·rename_i d;rw[bX d]at a c;exact goV_put a c
  ·rename_i d;rw[bY d]at a c;cases g:l[i]? with
   |none=>rfl
   |some s=>
    rw[g]at a c;simp only at a c⊢;cases f:po l m s with
    |none=>rw[f]at a c;exact goV_put a c
    |some r=>
     rw[f]at a c;simp only at a c⊢;split
     ·rfl
     ·rename_i j;rw[bY j]at a c;split
      ·rename_i e;rw[bX e]at a c;exact goV_put a c
      ·rename_i e;rw[bY e]at a c;generalize rec (lY m s.wk s.op (bO l s) r).2 (put++ [(i:Int)]) (t+1)=R at*;obtain⟨b,p',t',mn⟩:=R;cases b with
       |true=>simp at a
       |false=>
        cases mn with
        |true=>simp at c
        |false=>exact goV_put a c
theorem findV_put{l:List dR}{top:Int}:∀{f:Nat} {m:dv} {put:List Int} {t:Int},(dQ l top f m put t).1=false->(dQ l top f m put t).2.2.2=false->(dQ l top f m put t).2.1=put
 |0,m,put,t,_,_=>rfl
 |f+1,m,put,t,a,b=>by
  unfold dQ at a b⊢;split
  ·rfl
  ·rename_i h;rw[bY h]at a b;exact goV_put a b
def tQ(A Ah:Option Addr)(n cs ch:Nat)(pv:Value)(t top:Int)(mn:Bool):Array Value:= #[.slice A n cs,.slice Ah n ch,pv,bS t,bS top,.bool mn]
section
variable{w:World}{sk:Nat}{A Ah:Option Addr}{n cs ch:Nat}{pv:Value}{t top:Int}{mn:Bool}{l:List dR}{put:List Int}{e:TypeId}
theorem sk0(h:hp w sk=some (.cells (tQ A Ah n cs ch pv t top mn) e)):ao (hp w sk) (0+0)=some (.slice A n cs):=by rw[h,aN];rfl
theorem sk1(h:hp w sk=some (.cells (tQ A Ah n cs ch pv t top mn) e)):ao (hp w sk) (0+1)=some (.slice Ah n ch):=by rw[h,aN];rfl
theorem sk2(h:hp w sk=some (.cells (tQ A Ah n cs ch pv t top mn) e)):ao (hp w sk) (0+2)=some pv:=by rw[h,aN];rfl
theorem sk3(h:hp w sk=some (.cells (tQ A Ah n cs ch pv t top mn) e)):ao (hp w sk) (0+3)=some (bS t):=by rw[h,aN];rfl
theorem sk4(h:hp w sk=some (.cells (tQ A Ah n cs ch pv t top mn) e)):ao (hp w sk) (0+4)=some (bS top):=by rw[h,aN];rfl
theorem sk5(h:hp w sk=some (.cells (tQ A Ah n cs ch pv t top mn) e)):ao (hp w sk) (0+5)=some (.bool mn):=by rw[h,aN];rfl
theorem c_sIs(h:hp w sk=some (.cells (tQ A Ah n cs ch pv t top mn) 84))(a:sY w pv put)(b:put.length<=1000)(i:Int):aa prog 110 [bU sk,bS i] w λv w'=>v= .bool (put.contains i)/\w'=w:=by
 apply F110_ok;simp only[F110,ae,zS,fa_84_2,aH,sk2 h];exact(c_Contains dy a i).mono λ_ _ h=>h
theorem all_false{p:Nat->Bool}{k n:Nat}(a:k<n)(h:p k=false):(List.range n).all p=false:=List.all_eq_false.2 ⟨k,List.mem_range.2 a,by rw[h];simp⟩
theorem all_true{p:Nat->Bool}{n:Nat}(h:∀k,k<n->p k=true):(List.range n).all p=true:=List.all_eq_true.2 λk a=>h k (List.mem_range.1 a)
theorem l_sOver{W:World}(O:l.length<=1000)(G:ed W A (l.flatMap ji))(y:put.length<=1000):∀(d k:Nat) (w:World),ad [] W w->hp w sk=some (.cells (tQ A Ah l.length cs ch pv t top mn) 84)->sY w pv put->k+d=l.length->
  (∀ j s,j<k->l[j]? =some s->(!(decide (0<=s.rs)&& !put.contains (j:Int)))=true)->
  P64_0 (bU sk) (.slice A l.length cs) (bS l.length) (bS k) w λv w'=>v= .bool (pY l put)/\ad [] W w':=by
 intro d;induction d with
 |zero=>
  intro k w u h m H a;apply L64_0_ok;have:¬((k:Int)<l.length):=dy;simp only[L64_0,zS,this];refine⟨?_,u⟩;have:pY l put=true:=all_true λj z=>by
   rw[bZ z];exact a j l[j] dy (bZ z)
  rw[this]
 |succ d I=>
  intro k w u h m H a;apply L64_0_ok;have B:(k:Int)<l.length:=dy;have e:k<l.length:=dy;obtain⟨b,o,J,K⟩:=hJ (c:=cs) (j:= .i64) (i:=k) (G.an u.below) e;simp only[L64_0,zS,B,J,K.ld,al_39];rw[st_39 (by rfl) (by rfl) (by rw[af,bX rfl];rfl) (by rw[af,bX rfl];rfl),af,bX rfl,ar];generalize f:Ev.put (w.alloc _) w.heap.size (jV l[k]) 39=w1;have g:ad [] w w1:=by rw[<- f];exact((ad.refl _ _).alloc _).put (.inr (cy _)) _ _
  have L:hp w1 w.heap.size=some (.cells (jV l[k]) 39):=by rw[<- f,bf,bX rfl,bX (by simp)]
  clear f;have p:=u.trans g;have D:=g.at h (by simp);have q:=m.an g.below;have r:ao (hp w1 w.heap.size) (0+11)=some (bS l[k].rs):=rm L 11;have next:(!(decide (0<=l[k].rs)&& !put.contains (k:Int)))=true->P64_0 (bU sk) (.slice A l.length cs) (bS l.length) (bS ((k:Int)+1)) w1 λv w'=>v= .bool (pY l put)/\ad [] W w':=λM=>
   I (k+1) w1 p D q dy λj s z C=>by
    rcases cZ j k with hj'|hj'
    ·exact a j s hj' C
    ·have:j=k:=dy;subst this;rw[bZ e]at C;cases C;exact M
  have E:=ap (n:=(k:Int)+1) dy dy;by_cases x:0<=l[k].rs
  ·simp only[zS,gS,ag,r,x];refine(c_sIs D q y (k:Int)).step ?_;cases F:put.contains (k:Int)with
   |true=>
    simp only[zS,aj,E];exact next (by rw[F];simp)
   |false=>
    simp only[zS];refine⟨?_,p⟩;have:pY l put=false:=all_false e (by rw[bZ e];simp only[F,cj x];rfl);rw[this]
  ·simp only[zS,gS,ag,r,x,aj,E];exact next (by simp[x])
theorem c_sOver(c:l.length<=1000)(d:ed w A (l.flatMap ji))(a:put.length<=1000)(h:hp w sk=some (.cells (tQ A Ah l.length cs ch pv t top mn) 84))(b:sY w pv put):aa prog 64 [bU sk] w λv w'=>v= .bool (pY l put)/\ad [] w w':=by
 apply F64_ok;simp only[F64,ae,zS,fa_84_0,iV,sk0 h,ff];exact l_sOver c d a l.length 0 w (ad.refl _ _) h b dy λj s e=>dy
end
def hdI(w:Int):Int:=w%4294967296-1
def hdG(w:Int):Int:=w/4294967296
def putHd(i t:Int):Int:=if -1<=i/\i<4294967295/\0<=t/\t<=4294967295 then t*4294967296+(i+1)else 0
def nextT(t:Int):Int:=if t<0\/4294967295<=t then 0 else t+1
def sK(w i:Int):Int:=putHd i (nextT (hdG w))
structure RtV where
 gen:Int
 mark:Int
 cls:Int
 off:Int
def lN(r:RtV):Int:=if(0<=r.gen/\r.gen<=4294967295)/\(0<=r.mark/\r.mark<=4097)/\(0<=r.cls/\r.cls<=3)/\(0<=r.off/\r.off<=1024)then r.gen*4294967296+r.mark*65536+r.cls*4096+r.off else 0
def bd(w:Int):RtV:=⟨w/4294967296,w/65536%65536,w/4096%16,w%4096⟩
def mv(r:RtV)(gen:Int):Bool:=decide (1<=r.mark)&&decide (r.gen=gen)
def et(r:RtV):Int:=if r.mark<2 then -1 else r.mark-2
def fP(w:Int):Int:=if w>4611686018427387903 then 4611686018427387903 else w
def pinW(e:Int):Int:=if 0<=e/\e<=4611686018427387903 then 2*e+1 else 0
abbrev cW(c:cP):Nat:=c.1.toNat
abbrev cC(c:cP):Nat:=c.2.1.toNat
abbrev cK(c:cP):Nat:=c.2.2.1.toNat
abbrev cS(c:cP):Nat:=c.2.2.2.1.toNat
def fS(c:cP)(w:Nat):Nat:=3+w
def iS(c:cP)(s:Nat):Nat:=3+cW c+s
def aSl(c:cP)(s:Nat):Nat:=3+cW c+cS c+s
def aLk(c:cP)(k:Nat):Nat:=3+cW c+2*cS c+k
def aWd(c:cP)(k i:Nat):Nat:=3+cW c+2*cS c+cC c+k*cK c+i
def kX(c:cP):Nat:=3+cW c+2*cS c+cC c+cC c*cK c
abbrev bI:=List Int
def di(m:bI)(a:Nat):Int:=m.getD a 0
structure iP where
 head:Nat
 ee:Nat
 n:Nat
def bP(c:cP):iP:=⟨0,aLk c 0,cC c⟩
def dL(c:cP):iP:=⟨1,aSl c 0,cS c⟩
def pZ(s:iP)(w:Int):Int:=if(s.n:Int)<=hdI w then -1 else hdI w
def gJ(s:iP)(w:Int):Int:=if(s.n:Int)<w then -1 else w-1
structure PuV where
 l:List Int
 at':Nat
 old:Int
 done:Bool
def puNew(l:List Int):PuV:=⟨l,0,0,decide (l.length=0)⟩
def eX(s:iP)(m:bI)(p:PuV):bI×PuV:=
 if p.done then(m,p)
 else if p.at'+1<p.l.length then(m.set (s.ee+(p.l.getD p.at' 0).toNat) (p.l.getD (p.at'+1) 0+1),{p with at':=p.at'+1})
 else if p.at'+1=p.l.length then(m,{p with old:=di m s.head,at':=p.at'+1})
 else if p.at'=p.l.length then(m.set (s.ee+(p.l.getD (p.l.length-1) 0).toNat) (pZ s p.old+1),{p with at':=p.at'+1})
 else if di m s.head=p.old then(m.set s.head (sK p.old (p.l.getD 0 0)),{p with done:=true,at':=p.l.length-1})
 else(m,{p with done:=false,at':=p.l.length-1})
structure PoV where
 most:Int
 at':Nat
 deep:Int
 old:Int
 l:List Int
 done:Bool
def poNew(most:Int):PoV:=⟨min (max most 1) 8,0,0,0, [],false⟩
def dS(s:iP)(m:bI)(p:PoV):bI×PoV:=
 if p.done then(m,p)
 else if p.at'=0 then
  if pZ s (di m s.head)<0 then(m,{p with old:=di m s.head,l:= [],done:=true})
  else(m,{p with old:=di m s.head,l:= [pZ s (di m s.head)],at':=1})
 else if p.at'=1 then
  if 0<=gJ s (di m (s.ee+(p.l.getD (p.l.length-1) 0).toNat))/\(p.l.length:Int)<p.most then
   (m,{p with deep:=gJ s (di m (s.ee+(p.l.getD (p.l.length-1) 0).toNat)),l:=p.l++ [gJ s (di m (s.ee+(p.l.getD (p.l.length-1) 0).toNat))]})
  else(m,{p with deep:=gJ s (di m (s.ee+(p.l.getD (p.l.length-1) 0).toNat)),at':=2})
 else if di m s.head=p.old then(m.set s.head (sK p.old p.deep),{p with done:=true,at':=0})
 else(m,{p with done:=false,at':=0})
def ec(p:PoV):List Int:=if p.done then p.l else []
structure sL where
 tag:List Int
 l:List (List Int)
 last:Int
def lbNew:sL:=⟨[0,0,0], [[], [], []],-1⟩
def eM(b:sL)(tag:Int)(a:List Int):List Int×Bool×sL:=
 if a.length=0\/tag<0\/4611686018427387903<tag\/tag<b.last then([],false,b)
 else
  if 0<(b.l.getD (tag%3).toNat []).length/\b.tag.getD (tag%3).toNat 0<tag then
   (b.l.getD (tag%3).toNat [],true,⟨b.tag.set (tag%3).toNat tag,b.l.set (tag%3).toNat a,tag⟩)
  else([],true,⟨b.tag.set (tag%3).toNat tag,b.l.set (tag%3).toNat (b.l.getD (tag%3).toNat []++a),tag⟩)
def cO(b:sL)(now:Int)(best:Int)(k:Nat):Int:=
 if 0<(b.l.getD k []).length/\b.tag.getD k 0<=now-2/\(best<0\/b.tag.getD k 0<b.tag.getD best.toNat 0)then k else best
def kC(b:sL)(now:Int):Int:=cO b now (cO b now (cO b now (-1) 0) 1) 2
def sM(b:sL)(now:Int):Bool:=decide (2<=now)&&decide (0<=kC b now)
def fp:Nat->sL->Int->List Int->List Int×sL
 |0,b,_,a=>(a,b)
 |f+1,b,now,a=>if sM b now then fp f {b with l:=b.l.set (kC b now).toNat []} now (a++b.l.getD (kC b now).toNat [])else(a,b)
def jE(b:sL):Nat:=(b.l.getD 0 []).length+(b.l.getD 1 []).length+(b.l.getD 2 []).length
structure lO where
 st:List Int
 lb:sL
def suNew:lO:=⟨[],lbNew⟩
def qP(s:lO)(l:List Int):lO:={s with st:=s.st++l}
def oC(s:lO)(tag:Int)(l:List Int):lO:=⟨s.st++(eM s.lb tag l).1,(eM s.lb tag l).2.2⟩
def fT(s:lO)(now:Int):lO:=⟨s.st++(fp 4 s.lb now []).1,(fp 4 s.lb now []).2⟩
def overN(most:Int)(s:lO):Nat:=s.st.length-most.toNat
def fr(most:Int)(s:lO):List Int×lO:=(s.st.take (overN most s),{s with st:=s.st.drop (overN most s)})
def nr(s:lO):List Int×lO:=(s.st,{s with st:= []})
structure TkV where
 at':Nat
 chunk:Int
 seen:Int
 p:PoV
 done:Bool
def eK(s:lO)(t:TkV):lO×TkV:=
 if s.st.length=0 then(s,t)else({s with st:=s.st.take (s.st.length-1)},{t with chunk:=s.st.getD (s.st.length-1) 0,done:=true})
def tkPop(c:cP)(t:TkV):TkV:={t with at':=1,p:=poNew c.2.2.2.2.2}
def kr(c:cP)(s:lO):lO×TkV:=
 let r:=eK s ⟨0,-1,-1,poNew 0,false⟩
 if r.2.done=false/\jE r.1.lb=0 then(r.1,tkPop c r.2)else r
def fg(c:cP)(m:bI)(s:lO)(t:TkV):bI×lO×TkV:=
 if t.done then(m,s,t)
 else if t.at'=0 then
  let r:=eK (fT s (fP (di m 2))) {t with seen:=fP (di m 2)}
  (m,if r.2.done then r else(r.1,tkPop c r.2))
 else
  let r:=dS (bP c) m t.p
  if r.2.done=false then(r.1,s,{t with p:=r.2})
  else if(ec r.2).length=0 then(r.1,s,{t with p:=r.2,done:=true})
  else(r.1,qP s ((ec r.2).drop 1),{t with p:=r.2,chunk:=(ec r.2).getD 0 0,done:=true})
structure GiV where
 p:PuV
 l:List Int
 done:Bool
def iE(l:List Int):GiV:=⟨puNew l,l,decide (l.length=0)⟩
def dJ(c:cP)(m:bI)(g:GiV):bI×GiV:=
 if g.done then(m,g)else((eX (bP c) m g.p).1,{g with p:=(eX (bP c) m g.p).2,done:=(eX (bP c) m g.p).2.done})
structure CrV where
 cls:Int
 at':Nat
 steps:Int
 point:Int
 slot:Int
 gen:Int
 p:PoV
 root:RtV
 code:Int
 done:Bool
def crNew(cls:Int):CrV:=⟨min (max cls 0) 3,0,0,0,0,0,poNew 1,⟨0,0,0,0⟩,0,false⟩
def eL(c:cP)(m:bI)(x:CrV):bI×CrV:=
 if x.done then(m,x)
 else if x.at'=0 then
  let r:=dS (dL c) m x.p
  if r.2.done=false then(r.1,{x with steps:=x.steps+1,p:=r.2})
  else if(ec r.2).length=0 then(r.1,{x with steps:=x.steps+1,p:=r.2,point:=x.steps+1,code:=7,done:=true})
  else(r.1,{x with steps:=x.steps+1,p:=r.2,point:=x.steps+1,slot:=(ec r.2).getD 0 0,at':=1})
 else if x.at'=1 then(m,{x with steps:=x.steps+1,root:=bd (di m (iS c x.slot.toNat)),at':=2})
 else(m.set (iS c x.slot.toNat) (lN ⟨bF x.root.gen,1,x.cls,0⟩),{x with steps:=x.steps+1,gen:=bF x.root.gen,done:=true})
structure LkV where
 slot:Int
 gen:Int
 off:Int
 code:Int
 done:Bool
def qZ(slot gen:Int):LkV:=⟨slot,gen,0,0,false⟩
def oD(c:cP)(m:bI)(x:LkV):LkV:=
 if x.done then x
 else if mv (bd (di m (iS c x.slot.toNat))) x.gen then{x with off:=(bd (di m (iS c x.slot.toNat))).off,done:=true}else{x with code:=3,done:=true}
structure EdV where
 slot:Int
 gen:Int
 at':Nat
 steps:Int
 point:Int
 chunk:Int
 old:Int
 code:Int
 done:Bool
def edNew(slot gen:Int):EdV:=⟨slot,gen,0,0,0,-1,0,0,false⟩
def fG(c:cP)(m:bI)(x:EdV):bI×EdV:=
 if x.done then(m,x)
 else if x.at'=0 then
  if mv (bd (di m (iS c x.slot.toNat))) x.gen then(m,{x with steps:=x.steps+1,old:=di m (iS c x.slot.toNat),at':=1})
  else(m,{x with steps:=x.steps+1,old:=di m (iS c x.slot.toNat),code:=3,point:=x.steps+1,done:=true,at':=1})
 else if di m (iS c x.slot.toNat)=x.old then
  (m.set (iS c x.slot.toNat) (lN ⟨(bd x.old).gen,0,0,0⟩),{x with steps:=x.steps+1,chunk:=et (bd x.old),point:=x.steps+1,done:=true,at':=0})
 else(m,{x with steps:=x.steps+1,at':=0})
structure WaV where
 l:List Int
 done:Bool
def ir(c:cP)(m:bI)(x:WaV):WaV:=
 if x.done then x
 else if gJ (bP c) (di m (aLk c (x.l.getD (x.l.length-1) 0).toNat))<0\/x.l.length=cC c then{x with done:=true}
 else{x with l:=x.l++ [gJ (bP c) (di m (aLk c (x.l.getD (x.l.length-1) 0).toNat))]}
structure AlV where
 slot:Int
 gen:Int
 n:Int
 at':Nat
 steps:Int
 point:Int
 need:Int
 held:Int
 zero:Int
 old:Int
 t:TkV
 g:GiV
 code:Int
 h:eF
 dry:Bool
 done:Bool
def tk0:TkV:=⟨0,-1,-1,poNew 0,false⟩
def alNew(slot gen n:Int):AlV:=⟨slot,gen,n,0,0,0,0,-1,0,0,tk0,iE [],0,kY,false,false⟩
def gY(most:Int)(s:lO)(a:AlV):lO×AlV:=
 let b:=if 0<=a.held then qP s [a.held]else s
 ((fr most b).2,{a with held:= -1,g:=iE (fr most b).1,at':=6,done:=decide ((fr most b).1.length=0)})
def pr(most:Int)(s:lO)(a:AlV)(chunk off:Int):lO×AlV:=gY most s {a with h:=(a.slot,a.gen,chunk,off,a.n),point:=a.steps}
def mF(a:AlV):AlV:=if a.t.chunk<0 then{a with dry:=true,at':=0}else{a with held:=a.t.chunk,zero:=0,at':=3}
def mw(c:cP)(s:lO)(a:AlV):lO×AlV:=
 if mv (bd a.old) a.gen=false then gY c.2.2.2.2.1 s {a with code:=3,point:=a.steps}
 else
  let a1:={a with need:=bW (bd a.old).cls a.n}
  if 2<=(bd a.old).mark/\mf c.2.2.1 (bd a.old).off a1.need then(s,{a1 with at':=1})
  else if 0<=a.held then(s,{a1 with at':=4})
  else if a.dry then gY c.2.2.2.2.1 s {a1 with code:=6,point:=a.steps}
  else
   let r:=kr c s
   if r.2.done then(r.1,mF {a1 with t:=r.2,at':=2})else(r.1,{a1 with t:=r.2,at':=2})
def eC(c:cP)(m:bI)(s:lO)(a0:AlV):bI×lO×AlV:=
 if a0.done then(m,s,a0)
 else
 let a:={a0 with steps:=a0.steps+1}
 let b:=iS c a.slot.toNat
 let r:=bd a.old
 if a.at'=0 then(m,mw c s {a with old:=di m b})
 else if a.at'=1 then
  if di m b=a.old then(m.set b (lN {r with off:=r.off+a.need}),pr c.2.2.2.2.1 s {a with at':=0} (et r) r.off)
  else(m,s,{a with at':=0})
 else if a.at'=2 then
  let q:=fg c m s a.t
  (q.1,q.2.1,if q.2.2.done then mF {a with t:=q.2.2}else{a with t:=q.2.2})
 else if a.at'=3 then
  (m.set (aWd c a.held.toNat a.zero.toNat) 0,s,if a.zero+1=c.2.2.1 then{a with zero:=a.zero+1,at':=4}else{a with zero:=a.zero+1})
 else if a.at'=4 then(m.set (aLk c a.held.toNat) (et r+1),s,{a with at':=5})
 else if a.at'=5 then
  if di m b=a.old then(m.set b (lN {r with mark:=a.held+2,off:=eI c.2.2.1 a.need}),pr c.2.2.2.2.1 s {a with at':=0,held:= -1} a.held 0)
  else(m,s,{a with at':=0})
 else
  ((dJ c m a.g).1,s,{a with g:=(dJ c m a.g).2,done:=(dJ c m a.g).2.done})
structure FrV where
 at':Nat
 steps:Int
 point:Int
 back:Int
 tag:Int
 e:EdV
 k:WaV
 b:PuV
 g:GiV
 code:Int
 done:Bool
def tT(slot gen:Int):FrV:=⟨0,0,0,0,0,edNew slot gen,⟨[],false⟩,puNew [],iE [],0,false⟩
def sN(f:FrV):FrV:={f with b:=puNew [f.e.slot],at':=3}
def eD(c:cP)(m:bI)(s:lO)(f0:FrV):bI×lO×FrV:=
 if f0.done then(m,s,f0)
 else
 let f:={f0 with steps:=f0.steps+1}
 if f.at'=0 then
  let r:=fG c m f.e
  let f1:={f with e:=r.2}
  if r.2.done=false then(r.1,s,f1)
  else
   let a:={f1 with point:=f1.steps,code:=r.2.code}
   (r.1,s,if r.2.code≠0 then{a with done:=true}else if 0<=r.2.chunk then{a with at':=1}else sN a)
 else if f.at'=1 then(m,s,{f with tag:=fP (di m 2),k:=⟨[f.e.chunk],false⟩,at':=2})
 else if f.at'=2 then
  let w:=ir c m f.k
  if w.done then(m,oC s f.tag w.l,sN {f with k:=w})else(m,s,{f with k:=w})
 else if f.at'=3 then
  let r:=eX (dL c) m f.b
  if r.2.done then(r.1,(fr c.2.2.2.2.1 s).2,{f with b:=r.2,back:=f.steps,g:=iE (fr c.2.2.2.2.1 s).1,at':=4,done:=decide ((fr c.2.2.2.2.1 s).1.length=0)})
  else(r.1,s,{f with b:=r.2})
 else((dJ c m f.g).1,s,{f with g:=(dJ c m f.g).2,done:=(dJ c m f.g).2.done})
structure AdV where
 at':Nat
 old:Int
 won:Bool
 done:Bool
def fH(c:cP)(m:bI)(a:AdV):bI×AdV:=
 if a.done then(m,a)
 else if a.at'=0 then(m,{a with old:=di m 2,at':=a.at'+1})
 else if a.at'<=cW c then(m,{a with done:=decide (di m (fS c (a.at'-1))%2≠0/\di m (fS c (a.at'-1))/2≠fP a.old),at':=a.at'+1})
 else if di m 2=a.old then(m.set 2 (IntKind.u64.wrap (a.old+1)),{a with won:=true,done:=true,at':=a.at'+1})
 else(m,{a with won:=false,done:=true,at':=a.at'+1})
structure CoV where
 at':Nat
 a:AdV
 g:GiV
 won:Bool
 done:Bool
def coNew:CoV:=⟨0,⟨0,0,false,false⟩,iE [],false,false⟩
def ft(c:cP)(m:bI)(s:lO)(x:CoV):bI×lO×CoV:=
 if x.done then(m,s,x)
 else if x.at'=0 then
  let r:=fH c m x.a
  (r.1,s,if r.2.done then{x with a:=r.2,won:=r.2.won,at':=1}else{x with a:=r.2})
 else if x.at'=1 then
  let b:=fT s (fP (di m 2))
  (m,(nr b).2,{x with g:=iE (nr b).1,at':=2,done:=decide ((nr b).1.length=0)})
 else((dJ c m x.g).1,s,{x with g:=(dJ c m x.g).2,done:=(dJ c m x.g).2.done})
structure EnV where
 at':Nat
 epoch:Int
 done:Bool
inductive McV where
 |none
 |create (x:CrV)
 |alloc (x:AlV)
 |enter (x:EnV)
 |leave (done:Bool)
 |look (x:LkV)
 |free (x:FrV)
 |collect (x:CoV)
structure jR where
 su:lO
 depth:Int
 holds:List iD
 busy:Bool
 o:ez
 h:eF
 steps:Int
 point:Int
 back:Int
 last:jo
 mc:McV
def aI:jR:=⟨suNew,0, [],false,(0,0,0,0,0,0),kY,0,0,0,lV,.none⟩
def iQ(c:cP)(h:eF):Bool:=decide (0<=h.1/\h.1<=c.2.2.2.1-1)&&(decide (1<=h.2.1/\h.2.1<=4294967295)&&decide (h.2.2.1=0/\h.2.2.2.1=0/\h.2.2.2.2=0))
def kD(c:cP)(h:eF):Bool:=decide (0<=h.1/\h.1<=c.2.2.2.1-1)&&(decide (1<=h.2.1/\h.2.1<=4294967295)&&(decide (0<=h.2.2.1/\h.2.2.1<=c.2.1-1)&&(decide (1<=h.2.2.2.2/\h.2.2.2.2<=c.2.2.1)&&decide (0<=h.2.2.2.1/\h.2.2.2.1<=c.2.2.1-h.2.2.2.2))))
def jS(c:cP)(o:ez)(h:eF):Bool:=
 if gH o.1=1 then iQ c h else if gH o.1=2 then kD c h else if gH o.1=3 then iQ c h||kD c h else true
def cI(k:jR)(r:jo):jR:={k with busy:=false,last:=r,mc:= .none}
def kt(k:jR):Int×jR:=if k.depth=15 then(8,k)else(0,{k with depth:=k.depth+1})
def dP(k:jR):Int×jR:=if k.depth=0 then(4,k)else(0,if k.depth-1=0 then{k with depth:=k.depth-1,holds:= []}else{k with depth:=k.depth-1})
def pw(k:jR)(slot gen:Int):Bool:=decide ((slot,gen)∈k.holds)
def kV(k:jR)(slot gen:Int):jR:=if k.depth=0\/pw k slot gen=true\/k.holds.length=8 then k else{k with holds:=k.holds++ [(slot,gen)]}
def jT(c:cP)(k:jR)(o:ez)(h:eF):jR:=
 if o.1=1 then{k with mc:= .create (crNew o.2.2.2.1)}
 else if o.1=2 then(if o.2.2.2.1<1\/c.2.2.1<o.2.2.2.1 then cI k (bL 5)else{k with mc:= .alloc (alNew h.1 h.2.1 o.2.2.2.1)})
 else if o.1=3 then(if k.depth=0 then{k with mc:= .enter ⟨0,0,false⟩}else cI (kt k).2 (bL (kt k).1))
 else if o.1=4 then(if k.depth=1 then{k with mc:= .leave false}else cI (dP k).2 (bL (dP k).1))
 else if o.1=5 then
  (if k.depth=0 then cI k (bL 4)else if pw k h.1 h.2.1 then cI k lV else if k.holds.length=8 then cI k (bL 8)else{k with mc:= .look (qZ h.1 h.2.1)})
 else if o.1=10 then{k with mc:= .free (tT h.1 h.2.1)}
 else if o.1=11 then{k with mc:= .collect coNew}
 else if o.1=12 then{k with mc:= .look (qZ h.1 h.2.1)}
 else if pw k h.1 h.2.1=false then cI k (bL 4)
 else if h.2.2.2.2<=o.2.2.2.1 then cI k (bL 5)
 else{k with mc:= .none}
def jj(c:cP)(k:jR)(o:ez)(h:eF):jR:=
 if k.busy=true\/jz o=false then k
 else if jS c o h=false then cI {k with busy:=true,o:=o,h:=h,steps:=0,point:=0,back:=0} (bL 2)
 else jT c {k with busy:=true,o:=o,h:=h,steps:=0,point:=0,back:=0} o h
def iy(m:bI)(cell:Nat)(kind v a:Int):bI×jo:=
 if kind=6 then(m,(0,kY,0,di m cell))
 else if kind=7 then(m.set cell v,lV)
 else if kind=8 then(m.set cell (IntKind.u64.wrap (di m cell+v)),(0,kY,0,di m cell))
 else if di m cell=v then(m.set cell a,(0,kY,1,0))else(m,lV)
def aF(c:cP)(id:Nat)(m:bI)(a:jR):bI×jR:=
 if a.busy=false then(m,a)
 else
 let k:={a with steps:=a.steps+1}
 match k.mc with
 | .create x=>
  let r:=eL c m x
  let k1:={k with mc:= .create r.2,point:=r.2.point}
  (r.1,if r.2.done=true/\r.2.code≠0 then cI k1 (bL r.2.code)else if r.2.done then cI k1 (0,(r.2.slot,r.2.gen,0,0,0),0,0)else k1)
 | .alloc x=>
  let r:=eC c m k.su x
  let k1:={k with su:=r.2.1,mc:= .alloc r.2.2,point:=r.2.2.point}
  (r.1,if r.2.2.done then cI k1 (r.2.2.code,r.2.2.h,0,0)else k1)
 | .enter x=>
  if x.at'=0 then(m,{k with mc:= .enter ⟨1,fP (di m 2),false⟩})
  else(m.set (fS c id) (pinW x.epoch),cI (kt {k with point:=2}).2 (bL (kt k).1))
 | .leave _=>(m.set (fS c id) 0,cI (dP {k with point:=1}).2 (bL (dP k).1))
 | .look x=>
  let r:=oD c m x
  if k.o.1=5 then(m,cI (if r.code=0 then kV {k with point:=1} k.h.1 k.h.2.1 else{k with point:=1}) (bL r.code))
  else(m,cI {k with point:=1} (r.code,kY,r.off,0))
 | .free x=>
  let r:=eD c m k.su x
  let k1:={k with su:=r.2.1,mc:= .free r.2.2,point:=r.2.2.point,back:=r.2.2.back}
  (r.1,if r.2.2.done then cI k1 (bL r.2.2.code)else k1)
 | .collect x=>
  let r:=ft c m k.su x
  let k1:={k with su:=r.2.1,mc:= .collect r.2.2,point:=1}
  (r.1,if r.2.2.done then cI k1 lV else k1)
 | .none=>
  let r:=iy m (aWd c k.h.2.2.1.toNat (k.h.2.2.2.1+k.o.2.2.2.1).toNat) k.o.1 k.o.2.2.2.2.1 k.o.2.2.2.2.2
  (r.1,cI {k with point:=1} r.2)
def jU(c:cP)(m:bI)(k:jR):jo:=
 if k.busy=false then k.last
 else if k.point=0 then lV
 else match k.mc with
 | .create x=>(0,(x.slot,bF (bd (di m (iS c x.slot.toNat))).gen,0,0,0),0,0)
 | .alloc x=>(x.code,x.h,0,0)
 | .free x=>bL x.code
 |_=>lV
structure tj where
 m:bI
 ks:List jR
 ops:List (List ez)
 at':List Int
 open':List Int
 l:List dR
 h:List eF
 steps:Int
def fillV(s:iP)(m:bI):bI:=
 (List.range s.n).foldl (λm i=>m.set (s.ee+i) (if i+1=s.n then 0 else(((i+2)%(s.n+1):Nat):Int))) (m.set s.head 1)
def qQ(c:cP):bI:=fillV (dL c) (fillV (bP c) (List.replicate (kX c) 0))
def iW(c:cP)(ops:List (List ez)):tj:=
 ⟨qQ c,List.replicate (cW c) aI,(List.range (cW c)).map λi=>ops.getD i [],List.replicate (cW c) 0,List.replicate (cW c) (-1), [], [],0⟩
def oE:List ez->Nat->Nat
 |l,i=>if h:i<l.length then(if jz l[i]then i else oE l (i+1))else i
termination_by l i=>l.length-i
def eE(a:tj)(w:Nat):Nat:=oE (a.ops.getD w []) (a.at'.getD w 0).toNat
def hM(c:cP)(a:tj)(w:Int):Bool:=decide (0<=w)&&(decide (w<c.1)&&((a.ks.getD w.toNat aI).busy||decide (eE a w.toNat<(a.ops.getD w.toNat []).length)))
def jN(c:cP)(a:tj)(w:Nat):tj:=
 let i:=eE a w
 let o:=(a.ops.getD w []).getD i (0,0,0,0,0,0)
 let l:=a.l++ [⟨w,i,o,a.steps,-1,-1,-1,lV⟩]
 let h:=bO l ⟨w,i,o,a.steps,-1,-1,-1,lV⟩
 {a with at':=a.at'.set w (i+1),open':=a.open'.set w a.l.length,l:=l,h:=a.h++ [h],ks:=a.ks.set w (jj c (a.ks.getD w aI) o h)}
def noteS(c:cP)(m:bI)(k:jR)(steps:Int)(a:dR):dR:=
 let b:=if a.pt<0/\(0<k.point\/k.busy=false)then{a with pt:=steps}else a
 let d:=if b.bk<0/\0<k.back then{b with bk:=steps}else b
 let e:=if 0<=d.pt then{d with re:=jU c m k}else d
 if k.busy=false then{e with rs:=steps}else e
def spZ:dR:=⟨0,0,(0,0,0,0,0,0),0,0,0,0,lV⟩
def arGo(c:cP)(a:tj)(w:Nat):tj:=
 let r:=aF c w a.m (a.ks.getD w aI)
 let i:=(a.open'.getD w 0).toNat
 {a with m:=r.1,ks:=a.ks.set w r.2,l:=a.l.set i (noteS c r.1 r.2 a.steps (a.l.getD i spZ)),steps:=a.steps+1}
def px(c:cP)(a:tj)(w:Int):tj:=
 if hM c a w=false then a
 else arGo c (if(a.ks.getD w.toNat aI).busy then a else jN c a w.toNat) w.toNat
def oZ(c:cP)(a:tj)(p:List Int):tj:=p.foldl (px c) a
section
variable(D:Nat->Prop)(a0 a1 a2 a3 a4 a5 a6 x0 x1 x2 x3 x4 x5 x6 x7 x8 x9 gG iZ oU x13 x14 x15 x16 x17 x18 x19 x20 x21 x22 x23 x24 x25 x26 x27 x28 x29 x30 x31 x32 x33 x34 x35 x36 x37 x38 x39 x40 x41 x42 x43 x44 x45 x46 x47 x48 x49 x50 x51:Value)(w:World)(Q:QQ)
def C10:Code:=cb Tryz.f10
def T10_0:List It:= [.jn (bs [1,1,1] C10)]
def P10_0:Prop:=Part prog 10 T10_0 [3,8,10,11,12] [x3,x8,gG,iZ,oU] w Q
def H10:Nm:=⟨[], [(3, [3,8,10,11,12],u5 P10_0)], [(2,(.ask 0 5 (.leaf (r0 0 12 [])) (.leaf (1::2::4::3::5::0::(r0 6 6 []))))),(6,(.ask 4 5 (.leaf (r0 0 7 [])) (.leaf [1,2,3,0,5,4,6])))]⟩
def H25:Nm:=⟨[], [], []⟩
def C26:Code:=cb f26
def T26_0:List It:= [.lp (bs [1,1,0,1,4,5] C26),.eY 0,.jn (bs [1,1,1] C26)]
def P26_0:Prop:=Part prog 26 T26_0 [1,2,6] [x1,x2,x6] w Q
def T26_1:List It:= [.lp (bs [1,1,1,1,0,1,4,5] C26),.eY 2,.jn (bs [1,1,1,1,1] C26)]
def P26_1:Prop:=Part prog 26 T26_1 [1,2,7,8] [x1,x2,x7,x8] w Q
def T26_2:List It:= [.jn (bs [1,1,1,1,0,1,4,5,1,0,4,1,1,1] C26),.eY 3,.jn (bs [1,1,1,1,0,1,4,5,1,1] C26),.lp (bs [1,1,1,1,0,1,4,5] C26),.eY 2,.jn (bs [1,1,1,1,1] C26)]
def P26_2:Prop:=Part prog 26 T26_2 [1,2,7,8,9] [x1,x2,x7,x8,x9] w Q
def T26_3:List It:= [.jn (bs [1,1,1,1,0,1,4,5,1,1] C26),.lp (bs [1,1,1,1,0,1,4,5] C26),.eY 2,.jn (bs [1,1,1,1,1] C26)]
def P26_3:Prop:=Part prog 26 T26_3 [1,2,7,8] [x1,x2,x7,x8] w Q
def H26:Nm:=⟨[(4, [1,2,6],u3 P26_0),(10, [1,2,7,8],u4 P26_1)], [(11, [1,2,7,8],u4 P26_3),(16, [1,2,7,8,9],u5 P26_2)], [(8,(.ext (r0 0 6 []))),(12,(.ext (0::1::2::3::5::6::7::9::4::8::(r0 10 6 [])))),(17,(.ask 11 7 (.ask 6 12 (.ask 12 7 (.leaf (r0 0 5 (8::9::10::5::11::6::12::7::(r0 13 7 [])))) (.leaf (r0 0 5 (8::9::10::5::11::6::7::(r0 12 8 []))))) (.leaf (r0 0 5 (8::9::10::5::11::12::6::7::(r0 13 7 []))))) (.ask 6 12 (.ask 12 7 (.leaf (r0 0 5 (8::9::10::5::6::12::7::11::(r0 13 7 [])))) (.leaf (r0 0 20 []))) (.leaf (r0 0 5 (8::9::10::5::12::6::7::11::(r0 13 7 [])))))))]⟩
def C27:Code:=cb f27
def T27_0:List It:= [.lp (bs [1,1,1,0,1,4,5] C27),.eY 0,.jn (bs [1,1,1,1] C27)]
def P27_0:Prop:=Part prog 27 T27_0 [0,1,2,7,8,9] [x0,x1,x2,x7,x8,x9] w Q
def T27_1:List It:= [.jn (bs [1,1,1,0,1,4,5,1,1] C27),.lp (bs [1,1,1,0,1,4,5] C27),.eY 0,.jn (bs [1,1,1,1] C27)]
def P27_1:Prop:=Part prog 27 T27_1 [0,1,2,7,8,9] [x0,x1,x2,x7,x8,x9] w Q
def H27:Nm:=⟨[(4, [0,1,2,7,8,9],u6 P27_0)], [(5, [0,1,2,7,8,9],u6 P27_1)], [(7,(.ask 5 8 (.leaf (r0 0 13 [])) (.leaf (r0 0 5 [6,7,8,5,9,10,11,12]))))]⟩
def C28:Code:=cb f28
def T28_0:List It:= [.lp (bs [1,1,0,1,4,5] C28),.eY 0,.jn (bs [1,1,1] C28)]
def P28_0:Prop:=Part prog 28 T28_0 [0,1,5,6] [x0,x1,x5,x6] w Q
def T28_1:List It:= [.jn (bs [1,1,0,1,4,5,1,1] C28),.lp (bs [1,1,0,1,4,5] C28),.eY 0,.jn (bs [1,1,1] C28)]
def P28_1:Prop:=Part prog 28 T28_1 [0,1,5,6] [x0,x1,x5,x6] w Q
def H28:Nm:=⟨[(3, [0,1,5,6],u4 P28_0)], [(4, [0,1,5,6],u4 P28_1)], []⟩
def C29:Code:=cb f29
def T29_0:List It:= [.lp (bs [1,1,0,1,4,5] C29),.eY 0,.jn (bs [1,1,1] C29)]
def P29_0:Prop:=Part prog 29 T29_0 [0,1,5,6] [x0,x1,x5,x6] w Q
def T29_1:List It:= [.jn (bs [1,1,0,1,4,5,1,0,4,1,1] C29),.eY 1,.jn (bs [1,1,0,1,4,5,1,1] C29),.lp (bs [1,1,0,1,4,5] C29),.eY 0,.jn (bs [1,1,1] C29)]
def P29_1:Prop:=Part prog 29 T29_1 [0,1,5,6,7] [x0,x1,x5,x6,x7] w Q
def H29:Nm:=⟨[(3, [0,1,5,6],u4 P29_0)], [(8, [0,1,5,6,7],u5 P29_1)], []⟩
def C53:Code:=cb Tryz.f53
def T53_0:List It:= [.jn (bs [1,1,1] C53)]
def P53_0:Prop:=Part prog 53 T53_0 [0,1,5] [x0,x1,x5] w Q
def H53:Nm:=⟨[], [(4, [0,1,5],u3 P53_0)], [(2,(.leaf (r0 0 10 []))),(3,(.leaf (r0 0 11 [])))]⟩
def C55:Code:=cb f55
def T55_0:List It:= [.jn (bs [1,1,1,1] C55)]
def P55_0:Prop:=Part prog 55 T55_0 [1,3,4] [x1,x3,x4] w Q
def T55_1:List It:= [.jn (bs [1,1,1,1,1] C55)]
def P55_1:Prop:=Part prog 55 T55_1 [1,3,4] [x1,x3,x4] w Q
def T55_2:List It:= [.jn (bs [1,1,1,1,1,1] C55)]
def P55_2:Prop:=Part prog 55 T55_2 [4] [x4] w Q
def H55:Nm:=⟨[], [(4, [1,3,4],u3 P55_0),(5, [1,3,4],u3 P55_1),(6, [4],u1 P55_2)], [(3,(.ask 5 3 (.leaf (0::1::4::2::5::3::(r0 6 5 []))) (.leaf (r0 0 11 [])))),(4,(.ask 5 3 (.leaf (0::1::4::2::5::3::(r0 6 5 []))) (.leaf (r0 0 11 [])))),(5,(.ask 5 3 (.leaf (0::1::4::2::5::3::(r0 6 5 []))) (.leaf (r0 0 11 []))))]⟩
def H56:Nm:=⟨[], [], []⟩
def C57:Code:=cb f57
def T57_0:List It:= [.jn (bs [1,1,1,1,0,1,4,1,3,1] C57),.eY 0,.jn (bs [1,1,1,1,1] C57)]
def P57_0:Prop:=Part prog 57 T57_0 [0,1,4,6,7,20,28] [x0,x1,x4,x6,x7,x20,x28] w Q
def T57_1:List It:= [.jn (bs [1,1,1,1,1] C57)]
def P57_1:Prop:=Part prog 57 T57_1 [0,1,4,6,7] [x0,x1,x4,x6,x7] w Q
def T57_2:List It:= [.jn (bs [1,1,1,1,0,1,4,1,3,1,3,1,3,1,3,1] C57),.eY 0,.jn (bs [1,1,1,1,1] C57)]
def P57_2:Prop:=Part prog 57 T57_2 [0,1,4,6,51] [x0,x1,x4,x6,x51] w Q
def T57_3:List It:= [.jn (bs [1,1,1,1,1,1] C57)]
def P57_3:Prop:=Part prog 57 T57_3 [0,1,4,6,7] [x0,x1,x4,x6,x7] w Q
def T57_4:List It:= [.jn (bs [1,1,1,1,1,1,1] C57)]
def P57_4:Prop:=Part prog 57 T57_4 [0,1,4,6,7] [x0,x1,x4,x6,x7] w Q
def T57_5:List It:= [.jn (bs [1,1,1,1,1,1,1,1,1,1,1] C57)]
def P57_5:Prop:=Part prog 57 T57_5 [4,6] [x4,x6] w Q
def H57:Nm:=⟨[], [(13, [0,1,4,6,7,20,28],u7 P57_0),(21, [0,1,4,6,51],u5 P57_2),(22, [0,1,4,6,7],u5 P57_1),(24, [0,1,4,6,7],u5 P57_3),(26, [0,1,4,6,7],u5 P57_4),(32, [4,6],u2 P57_5)], [(31,(.ask 3 5 (.leaf (r0 0 8 [])) (.leaf [0,2,1,4,5,3,6,7])))]⟩
def C58:Code:=cb f58
def T58_0:List It:= [.jn (bs [1,1,1,0,1,2,1,1,1,1,1] C58),.jn (bs [1,1,1,1] C58)]
def P58_0:Prop:=Part prog 58 T58_0 [0,1,5,7,8] [x0,x1,x5,x7,x8] w Q
def T58_1:List It:= [.jn (bs [1,1,1,1] C58)]
def P58_1:Prop:=Part prog 58 T58_1 [0,1,5] [x0,x1,x5] w Q
def H58:Nm:=⟨[], [(10, [0,1,5,7,8],u5 P58_0),(12, [0,1,5],u3 P58_1)], [(7,(.leaf (r0 0 21 []))),(8,(.leaf (r0 0 18 []))),(9,(.ask 11 10 (.leaf [0,1,2,4,5,6,3,7,8,9,11,10,12]) (.leaf (r0 0 13 [])))),(10,(.leaf (r0 0 11 [])))]⟩
def H90:Nm:=⟨[], [], []⟩
def H91:Nm:=⟨[], [], []⟩
def H92:Nm:=⟨[], [], []⟩
def H93:Nm:=⟨[], [], []⟩
def H94:Nm:=⟨[], [], []⟩
def C95:Code:=cb f95
def T95_0:List It:= [.lp (bs [1,1,1,4,5] C95),.eY 0]
def P95_0:Prop:=Part prog 95 T95_0 [0,4] [x0,x4] w Q
def T95_1:List It:= [.jn (bs [1,1,1,4,5,1,1] C95),.lp (bs [1,1,1,4,5] C95),.eY 0]
def P95_1:Prop:=Part prog 95 T95_1 [0,4] [x0,x4] w Q
def H95:Nm:=⟨[(3, [0,4],u2 P95_0)], [(4, [0,4],u2 P95_1)], [(1,(.leaf (r0 0 14 []))),(5,(.leaf (r0 0 24 []))),(7,(.leaf (r0 0 15 [])))]⟩
def H96:Nm:=⟨[], [], []⟩
def H97:Nm:=⟨[], [], []⟩
def C98:Code:=cb f98
def T98_0:List It:= [.lp (bs [1,1,0,1,4,5] C98),.eY 0,.jn (bs [1,1,1] C98)]
def P98_0:Prop:=Part prog 98 T98_0 [0,1,5,6] [x0,x1,x5,x6] w Q
def T98_1:List It:= [.lp (bs [1,1,0,1,4,5,1,0,4,1,4,5] C98),.eY 2,.eY 1,.jn (bs [1,1,0,1,4,5,1,1] C98),.lp (bs [1,1,0,1,4,5] C98),.eY 0,.jn (bs [1,1,1] C98)]
def P98_1:Prop:=Part prog 98 T98_1 [0,1,5,6,7] [x0,x1,x5,x6,x7] w Q
def T98_2:List It:= [.jn (bs [1,1,0,1,4,5,1,0,4,1,4,5,1,1] C98),.lp (bs [1,1,0,1,4,5,1,0,4,1,4,5] C98),.eY 2,.eY 1,.jn (bs [1,1,0,1,4,5,1,1] C98),.lp (bs [1,1,0,1,4,5] C98),.eY 0,.jn (bs [1,1,1] C98)]
def P98_2:Prop:=Part prog 98 T98_2 [0,1,5,6,7] [x0,x1,x5,x6,x7] w Q
def H98:Nm:=⟨[(3, [0,1,5,6],u4 P98_0),(6, [0,1,5,6,7],u5 P98_1)], [(7, [0,1,5,6,7],u5 P98_2)], []⟩
def H99:Nm:=⟨[], [], [(1,(.ask 29 25 (.ask 32 25 (.leaf (r0 0 15 (16::15::(r0 17 8 [26,27,28,30,29,31,32,33,25,34,35,36,37])))) (.leaf (r0 0 15 (16::15::(r0 17 8 (26::27::28::30::29::31::25::(r0 32 6 []))))))) (.leaf (r0 0 38 []))))]⟩
def C100:Code:=cb Tryz.f100
def T100_0:List It:= [.lp (bs [1,1,0,4,5] C100),.eY 0,.jn (bs [1,1,1] C100)]
def P100_0:Prop:=Part prog 100 T100_0 [0,1,5] [x0,x1,x5] w Q
def H100:Nm:=⟨[(2, [0,1,5],u3 P100_0)], [], []⟩
def C101:Code:=cb Tryz.f101
def T101_0:List It:= [.jn (bs [1,1,1] C101)]
def P101_0:Prop:=Part prog 101 T101_0 [0,4,5] [x0,x4,x5] w Q
def T101_1:List It:= [.jn (bs [1,1,1,1,1] C101)]
def P101_1:Prop:=Part prog 101 T101_1 [] [] w Q
def H101:Nm:=⟨[], [(4, [0,4,5],u3 P101_0),(42, [],u0 P101_1)], [(3,(.ask 6 10 (.ask 7 10 (.leaf (r0 0 26 [])) (.ask 7 13 (.leaf (r0 0 6 (8::9::6::10::11::12::7::(r0 13 13 [])))) (.leaf (r0 0 6 (8::9::6::10::11::12::13::7::(r0 14 12 [])))))) (.ask 7 10 (.leaf (r0 0 6 (8::9::7::10::6::(r0 11 15 [])))) (.ask 7 13 (.leaf (r0 0 6 (8::9::10::6::11::12::7::(r0 13 13 [])))) (.leaf (r0 0 6 (8::9::10::6::11::12::13::7::(r0 14 12 [])))))))),(8,(.leaf (r0 0 10 []))),(13,(.leaf (r0 0 11 []))),(15,(.leaf (r0 0 16 []))),(17,(.leaf (r0 0 15 []))),(20,(.leaf (r0 0 17 []))),(25,(.leaf (r0 0 17 []))),(29,(.leaf (r0 0 14 []))),(32,(.leaf (r0 0 9 []))),(37,(.leaf (r0 0 13 []))),(41,(.leaf (r0 0 14 [])))]⟩
def C102:Code:=cb f102
def T102_0:List It:= [.jn (bs [1,1,1,1] C102)]
def P102_0:Prop:=Part prog 102 T102_0 [] [] w Q
def T102_1:List It:= [.jn (bs [1,1,1,0,1,4,1,3,1,3,1,3,1,3,1,2,1,1,1] C102),.eY 0,.jn (bs [1,1,1,1] C102)]
def P102_1:Prop:=Part prog 102 T102_1 [0] [x0] w Q
def T102_2:List It:= [.jn (bs [1,1,1,0,1,4,1,3,1,3,1,3,1,3,1,3,1,3,1,3,1,3,1] C102),.eY 0,.jn (bs [1,1,1,1] C102)]
def P102_2:Prop:=Part prog 102 T102_2 [0,7] [x0,x7] w Q
def H102:Nm:=⟨[], [(6, [0,7],u2 P102_2),(36, [0],u1 P102_1),(51, [],u0 P102_0)], [(5,(.ask 36 35 (.leaf [0,1,2,4,5,6,7,9,10,11,12,14,15,16,17,19,20,21,22,25,26,27,28,30,31,32,33,3,8,13,18,23,24,29,34,36,35,37]) (.leaf (r0 0 38 [])))),(14,(.leaf (r0 0 18 []))),(19,(.leaf (r0 0 17 []))),(35,(.leaf (r0 0 14 []))),(39,(.leaf (r0 0 22 []))),(50,(.leaf (r0 0 17 [])))]⟩
def C103:Code:=cb f103
def T103_0:List It:= [.jn (bs [1,1] C103)]
def P103_0:Prop:=Part prog 103 T103_0 [0,4,5] [x0,x4,x5] w Q
def T103_1:List It:= [.jn (bs [1,1,1] C103)]
def P103_1:Prop:=Part prog 103 T103_1 [0,4,5] [x0,x4,x5] w Q
def T103_2:List It:= [.jn (bs [1,1,1,1] C103)]
def P103_2:Prop:=Part prog 103 T103_2 [0,4,5] [x0,x4,x5] w Q
def H103(D:Nat->Prop):Nm:=⟨[], [(3, [0,4,5],u3 P103_0),(5, [0,4,5],u3 P103_1),(7, [0,4,5],u3 P103_2)], [(0,(.leaf (r0 0 16 []))),(2,(.leaf (r0 0 12 []))),(4,(.leaf (r0 0 12 []))),(6,(.exd D (0::1::2::4::5::3::(r0 6 7 [])))),(8,(.leaf (r0 0 12 [])))]⟩
def H132:Nm:=⟨[], [], []⟩
def H133:Nm:=⟨[], [], []⟩
def H134:Nm:=⟨[], [], []⟩
def H135:Nm:=⟨[], [], []⟩
def H136:Nm:=⟨[], [], [(3,(.leaf (r0 0 10 []))),(5,(.leaf (r0 0 10 []))),(7,(.leaf (r0 0 21 [])))]⟩
def H137:Nm:=⟨[], [], [(1,(.ask 2 5 (.leaf (r0 0 9 [])) (.leaf [0,1,3,4,5,2,6,7,8])))]⟩
def H138:Nm:=⟨[], [], []⟩
def H139:Nm:=⟨[], [], []⟩
def H140:Nm:=⟨[], [], []⟩
def C141:Code:=cb Tryz.f141
def T141_0:List It:= [.jn (bs [1,1,1,1] C141)]
def P141_0:Prop:=Part prog 141 T141_0 [0] [x0] w Q
def H141:Nm:=⟨[], [(6, [0],u1 P141_0)], []⟩
def C142:Code:=cb Tryz.f142
def T142_0:List It:= [.lp (bs [1,0,1,4,5] C142),.eY 0,.jn (bs [1,1] C142)]
def P142_0:Prop:=Part prog 142 T142_0 [0,1,2,7] [x0,x1,x2,x7] w Q
def H142:Nm:=⟨[(2, [0,1,2,7],u4 P142_0)], [], []⟩
def H143:Nm:=⟨[], [], []⟩
def H144:Nm:=⟨[], [], []⟩
def C145:Code:=cb Tryz.f145
def T145_0:List It:= [.jn (bs [1,1,1,1,1] C145)]
def P145_0:Prop:=Part prog 145 T145_0 [] [] w Q
def H145:Nm:=⟨[], [(23, [],u0 P145_0)], [(7,(.leaf (r0 0 15 []))),(8,(.leaf (r0 0 15 []))),(21,(.leaf (r0 0 19 [])))]⟩
def C146:Code:=cb Tryz.f146
def T146_0:List It:= [.jn (bs [1,1,1,1,1,1,1] C146)]
def P146_0:Prop:=Part prog 146 T146_0 [] [] w Q
def H146(D:Nat->Prop):Nm:=⟨[], [(41, [],u0 P146_0)], [(5,(.leaf (r0 0 10 []))),(15,(.leaf (r0 0 9 []))),(18,(.leaf (r0 0 11 []))),(19,(.exd D [0,3,1,4,2,5])),(25,(.exd D [0,1,2,4,5,6,8,9,10,12,13,14,3,7,11,15,16,17])),(27,(.leaf (r0 0 10 []))),(30,(.exd D [0,1,2,4,5,6,8,9,10,3,7,11,13,12,14,15,16,17])),(34,(.exd D [0,1,2,5,6,7,8,10,11,12,3,4,15,9,13,14,16,17,18])),(37,(.leaf (r0 0 11 [])))]⟩
def H147:Nm:=⟨[], [], [(4,(.leaf (r0 0 20 []))),(8,(.leaf (r0 0 21 [])))]⟩
def H148:Nm:=⟨[], [], [(3,(.leaf (r0 0 20 [])))]⟩
def C149:Code:=cb Tryz.f149
def T149_0:List It:= [.jn (bs [1,1,1] C149)]
def P149_0:Prop:=Part prog 149 T149_0 [0,3] [x0,x3] w Q
def T149_1:List It:= [.jn (bs [1,1,1,1,1] C149)]
def P149_1:Prop:=Part prog 149 T149_1 [] [] w Q
def H149(D:Nat->Prop):Nm:=⟨[], [(4, [0,3],u2 P149_0),(8, [],u0 P149_1)], [(3,(.ask 21 18 (.exd D [0,1,2,7,8,9,14,15,16,3,4,5,6,10,11,12,13,17,21,18,19,20,22]) (.ask 21 19 (.exd D [0,1,2,7,8,9,14,15,16,3,4,5,6,10,11,12,13,17,18,21,19,20,22]) (.ask 21 20 (.exd D [0,1,2,7,8,9,14,15,16,3,4,5,6,10,11,12,13,17,18,19,21,20,22]) (.exd D (0::1::2::7::8::9::14::15::16::3::4::5::6::10::11::12::13::(r0 17 6 []))))))),(5,(.leaf (r0 0 6 [])))]⟩
def H150:Nm:=⟨[], [], []⟩
def C151:Code:=cb Tryz.f151
def T151_0:List It:= [.jn (bs [1,1,1,1,1] C151)]
def P151_0:Prop:=Part prog 151 T151_0 [] [] w Q
def H151:Nm:=⟨[], [(32, [],u0 P151_0)], [(12,(.leaf (r0 0 19 []))),(24,(.leaf (r0 0 16 [])))]⟩
def C152:Code:=cb Tryz.f152
def T152_0:List It:= [.jn (bs [1,1,1] C152)]
def P152_0:Prop:=Part prog 152 T152_0 [] [] w Q
def H152(D:Nat->Prop):Nm:=⟨[], [(14, [],u0 P152_0)], [(11,(.exd D (0::1::2::4::5::6::3::(r0 7 10 []))))]⟩
def H153:Nm:=⟨[], [], []⟩
def H154:Nm:=⟨[], [], [(2,(.ask 8 10 (.leaf (r0 0 12 [])) (.leaf [0,1,2,4,5,6,7,3,10,8,9,11]))),(7,(.ask 3 18 (.ask 6 18 (.leaf (r0 0 25 [])) (.ask 6 20 (.leaf (0::1::2::7::8::9::11::12::13::3::4::5::10::(r0 14 6 (6::(r0 20 5 []))))) (.leaf (0::1::2::7::8::9::11::12::13::3::4::5::10::(r0 14 7 [6,21,22,23,24]))))) (.ask 3 20 (.ask 6 20 (.leaf (0::1::2::7::8::9::11::12::13::10::(r0 14 6 (3::4::5::6::(r0 20 5 []))))) (.leaf (0::1::2::7::8::9::11::12::13::10::(r0 14 6 [3,4,5,20,6,21,22,23,24])))) (.leaf (0::1::2::7::8::9::11::12::13::10::(r0 14 7 [3,4,5,6,21,22,23,24])))))),(9,(.leaf (r0 0 17 [])))]⟩
def H172:Nm:=⟨[], [], []⟩
def H173:Nm:=⟨[], [], []⟩
def H174:Nm:=⟨[], [], []⟩
def H175:Nm:=⟨[], [], []⟩
def C176:Code:=cb Tryz.f176
def T176_0:List It:= [.jn (bs [1,1,1,1] C176)]
def P176_0:Prop:=Part prog 176 T176_0 [] [] w Q
def H176(D:Nat->Prop):Nm:=⟨[], [(19, [],u0 P176_0)], [(5,(.exd D (0::1::2::3::5::6::7::9::10::11::13::14::15::17::18::19::4::8::12::16::(r0 20 6 [])))),(8,(.leaf (r0 0 13 []))),(15,(.leaf (r0 0 28 []))),(16,(.leaf (r0 0 17 []))),(17,(.leaf (r0 0 14 [])))]⟩
def H177:Nm:=⟨[], [], []⟩
def H178:Nm:=⟨[], [], []⟩
def H179:Nm:=⟨[], [], []⟩
def H180:Nm:=⟨[], [], []⟩
def H181:Nm:=⟨[], [], []⟩
def H182:Nm:=⟨[], [], []⟩
def H183:Nm:=⟨[], [], [(1,(.leaf (r0 0 7 []))),(4,(.leaf (r0 0 11 []))),(8,(.leaf (r0 0 24 [])))]⟩
def H184:Nm:=⟨[], [], []⟩
def H185:Nm:=⟨[], [], [(0,(.leaf (r0 0 27 [])))]⟩
def H186:Nm:=⟨[], [], []⟩
def C187:Code:=cb Tryz.f187
def T187_0:List It:= [.jn (bs [1,1,0,1,2,1,1,1,1] C187),.jn (bs [1,1,1] C187)]
def P187_0:Prop:=Part prog 187 T187_0 [] [] w Q
def T187_1:List It:= [.jn (bs [1,1,1,1,1,1,1] C187)]
def P187_1:Prop:=Part prog 187 T187_1 [0] [x0] w Q
def H187:Nm:=⟨[], [(9, [],u0 P187_0),(17, [0],u1 P187_1)], [(5,(.leaf (r0 0 9 []))),(16,(.leaf (r0 0 10 [])))]⟩
def H188:Nm:=⟨[], [], []⟩
def H189:Nm:=⟨[], [], []⟩
def H190:Nm:=⟨[], [], []⟩
def H191:Nm:=⟨[], [], []⟩
def H192:Nm:=⟨[], [], []⟩
def H193:Nm:=⟨[], [], []⟩
def C194:Code:=cb Tryz.f194
def T194_0:List It:= [.jn (bs [1,1,1,1,0,1,2,1,1] C194),.jn (bs [1,1,1,1,1] C194)]
def P194_0:Prop:=Part prog 194 T194_0 [0] [x0] w Q
def T194_1:List It:= [.jn (bs [1,1,1,1,1,1,1,1] C194)]
def P194_1:Prop:=Part prog 194 T194_1 [0] [x0] w Q
def H194(D:Nat->Prop):Nm:=⟨[], [(9, [0],u1 P194_0),(15, [0],u1 P194_1)], [(4,(.leaf (r0 0 13 []))),(7,(.exd D [0,1,2,5,6,7,3,8,4,9,10])),(13,(.leaf (r0 0 14 []))),(14,(.exd D (0::1::2::5::6::7::3::8::4::(r0 9 9 []))))]⟩
def H195:Nm:=⟨[], [], [(0,(.leaf (r0 0 27 [])))]⟩
def H196:Nm:=⟨[], [], []⟩
def C197:Code:=cb Tryz.f197
def T197_0:List It:= [.jn (bs [1,1,1,1] C197)]
def P197_0:Prop:=Part prog 197 T197_0 [] [] w Q
def H197(D:Nat->Prop):Nm:=⟨[], [(7, [],u0 P197_0)], [(3,(.exd D (0::1::2::7::8::9::14::15::16::21::22::23::25::26::27::3::4::5::6::10::11::12::13::17::18::19::20::24::(r0 28 9 [])))),(4,(.leaf (r0 0 18 [])))]⟩
def H198:Nm:=⟨[], [], []⟩
def C199:Code:=cb Tryz.f199
def T199_0:List It:= [.jn (bs [1,1,1,1] C199)]
def P199_0:Prop:=Part prog 199 T199_0 [] [] w Q
def H199(D:Nat->Prop):Nm:=⟨[], [(15, [],u0 P199_0)], [(3,(.leaf (r0 0 11 []))),(4,(.exd D (0::1::2::3::5::6::7::9::10::11::13::14::15::17::18::19::4::8::12::16::(r0 20 8 [])))),(7,(.leaf (r0 0 33 []))),(10,(.leaf (r0 0 13 []))),(13,(.exd D (0::1::2::4::5::6::8::9::10::12::13::17::18::19::20::3::7::11::14::15::16::(r0 21 5 []))))]⟩
def H200:Nm:=⟨[], [], []⟩
def C201:Code:=cb Tryz.f201
def T201_0:List It:= [.jn (bs [1,1,1,1] C201)]
def P201_0:Prop:=Part prog 201 T201_0 [0] [x0] w Q
def H201:Nm:=⟨[], [(11, [0],u1 P201_0)], [(4,(.leaf (r0 0 22 []))),(8,(.leaf (r0 0 13 []))),(9,(.leaf (r0 0 21 [])))]⟩
def H202:Nm:=⟨[], [], []⟩
def H203:Nm:=⟨[], [], []⟩
def H204:Nm:=⟨[], [], []⟩
def H205:Nm:=⟨[], [], [(1,(.ask 3 12 (.ask 6 12 (.leaf (r0 0 17 [])) (.leaf [0,1,2,7,8,9,11,3,4,5,10,12,6,13,14,15,16])) (.leaf [0,1,2,7,8,9,11,10,12,3,4,5,6,13,14,15,16])))]⟩
def H211:Nm:=⟨[], [], []⟩
def H212:Nm:=⟨[], [], []⟩
def H213:Nm:=⟨[], [], []⟩
def H214:Nm:=⟨[], [], []⟩
def C215:Code:=cb Tryz.f215
def T215_0:List It:= [.jn (bs [1] C215)]
def P215_0:Prop:=Part prog 215 T215_0 [0] [x0] w Q
def H215:Nm:=⟨[], [(3, [0],u1 P215_0)], [(1,(.leaf (r0 0 13 [])))]⟩
def C216:Code:=cb Tryz.f216
def T216_0:List It:= [.jn (bs [1,1,1,1] C216)]
def P216_0:Prop:=Part prog 216 T216_0 [3] [x3] w Q
def H216:Nm:=⟨[], [(5, [3],u1 P216_0)], []⟩
def H217:Nm:=⟨[], [], []⟩
def H218:Nm:=⟨[], [], [(0,(.leaf (r0 0 30 [])))]⟩
def H219:Nm:=⟨[], [], []⟩
def H220:Nm:=⟨[], [], []⟩
def C221:Code:=cb Tryz.f221
def T221_0:List It:= [.jn (bs [1,1,1,1,1,1] C221)]
def P221_0:Prop:=Part prog 221 T221_0 [0,1,2,8,9] [x0,x1,x2,x8,x9] w Q
def H221:Nm:=⟨[], [(9, [0,1,2,8,9],u5 P221_0)], [(10,(.leaf (r0 0 15 [])))]⟩
def H222:Nm:=⟨[], [], []⟩
def H223:Nm:=⟨[], [], [(1,(.leaf (r0 0 12 [])))]⟩
def H224:Nm:=⟨[], [], []⟩
def C225:Code:=cb Tryz.f225
def T225_0:List It:= [.lp (bs [1,1,0,4,5] C225),.eY 0,.jn (bs [1,1,1] C225)]
def P225_0:Prop:=Part prog 225 T225_0 [0,1,5] [x0,x1,x5] w Q
def H225:Nm:=⟨[(2, [0,1,5],u3 P225_0)], [], []⟩
def H226:Nm:=⟨[], [], []⟩
def H227:Nm:=⟨[], [], []⟩
def H228:Nm:=⟨[], [], []⟩
def H229:Nm:=⟨[], [], [(1,(.leaf (r0 0 21 [])))]⟩
def H230:Nm:=⟨[], [], []⟩
def H231:Nm:=⟨[], [], []⟩
def C232:Code:=cb Tryz.f232
def T232_0:List It:= [.lp (bs [1,1,0,1,4,5] C232),.eY 0,.jn (bs [1,1,1] C232)]
def P232_0:Prop:=Part prog 232 T232_0 [0,1,5,6] [x0,x1,x5,x6] w Q
def T232_1:List It:= [.jn (bs [1,1,0,1,4,5,1,1] C232),.lp (bs [1,1,0,1,4,5] C232),.eY 0,.jn (bs [1,1,1] C232)]
def P232_1:Prop:=Part prog 232 T232_1 [0,1,5,6] [x0,x1,x5,x6] w Q
def H232:Nm:=⟨[(3, [0,1,5,6],u4 P232_0)], [(4, [0,1,5,6],u4 P232_1)], [(5,(.leaf (r0 0 38 [])))]⟩
end
section
attribute [local irreducible] prog qq Part P10_0 P26_0 P26_1 P26_2 P26_3 P27_0 P27_1 P28_0 P28_1 P29_0 P29_1 P53_0 P55_0 P55_1 P55_2 P57_0 P57_1 P57_2 P57_3 P57_4 P57_5 P58_0 P58_1 P95_0 P95_1 P98_0 P98_1 P98_2 P100_0 P101_0 P101_1 P102_0 P102_1 P102_2 P103_0 P103_1 P103_2 P141_0 P142_0 P145_0 P146_0 P149_0 P149_1 P151_0 P152_0 P176_0 P187_0 P187_1 P194_0 P194_1 P197_0 P199_0 P201_0 P215_0 P216_0 P221_0 P225_0 P232_0 P232_1
attribute [local irreducible] nP ai bp be fR dF dE aa CallX CallD rdD rdG gv gd gE gU rB nilv cnd World.drew undef rC
attribute [local irreducible] Instr.box Instr.alloc Instr.build Instr.buildSlice Instr.storeAt convert Op.unary Instr.makeInterface Instr.makeSlice Instr.sliceAt Instr.fieldAt Instr.field Instr.indexAt Instr.index Instr.typeAssert Instr.extract
attribute [local irreducible] Builtin.len_ Builtin.cap_ Builtin.min_ Builtin.max_ Builtin.append_ Builtin.copy_
variable(D:Nat->Prop)(a0 a1 a2 a3 a4 a5 a6 x0 x1 x2 x3 x4 x5 x6 x7 x8 x9 gG iZ oU x13 x14 x15 x16 x17 x18 x19 x20 x21 x22 x23 x24 x25 x26 x27 x28 x29 x30 x31 x32 x33 x34 x35 x36 x37 x38 x39 x40 x41 x42 x43 x44 x45 x46 x47 x48 x49 x50 x51:Value)(w:World)(Q:QQ)
def F10:Prop:=(λp (_:(fx H10 Tryz.f10 [a0,a1,a2,a3] w Q).p=p)=>p) _ rz
def L10_0:Prop:=(λp (_:(gu H10 Tryz.f10 T10_0 [3,8,10,11,12] [x3,x8,gG,iZ,oU] w Q).p=p)=>p) _ rz
def F25:Prop:=(λp (_:(fx H25 Tryz.f25 [a0] w Q).p=p)=>p) _ rz
def F26:Prop:=(λp (_:(fx H26 f26 [a0,a1] w Q).p=p)=>p) _ rz
def L26_0:Prop:=(λp (_:(nf H26 f26 T26_0 [1,2,6] [x1,x2,x6] w Q).p=p)=>p) _ rz
def L26_1:Prop:=(λp (_:(nf H26 f26 T26_1 [1,2,7,8] [x1,x2,x7,x8] w Q).p=p)=>p) _ rz
def L26_2:Prop:=(λp (_:(gu H26 f26 T26_2 [1,2,7,8,9] [x1,x2,x7,x8,x9] w Q).p=p)=>p) _ rz
def L26_3:Prop:=(λp (_:(gu H26 f26 T26_3 [1,2,7,8] [x1,x2,x7,x8] w Q).p=p)=>p) _ rz
def F27:Prop:=(λp (_:(fx H27 f27 [a0,a1,a2] w Q).p=p)=>p) _ rz
def L27_0:Prop:=(λp (_:(nf H27 f27 T27_0 [0,1,2,7,8,9] [x0,x1,x2,x7,x8,x9] w Q).p=p)=>p) _ rz
def L27_1:Prop:=(λp (_:(gu H27 f27 T27_1 [0,1,2,7,8,9] [x0,x1,x2,x7,x8,x9] w Q).p=p)=>p) _ rz
def F28:Prop:=(λp (_:(fx H28 f28 [a0,a1] w Q).p=p)=>p) _ rz
def L28_0:Prop:=(λp (_:(nf H28 f28 T28_0 [0,1,5,6] [x0,x1,x5,x6] w Q).p=p)=>p) _ rz
def L28_1:Prop:=(λp (_:(gu H28 f28 T28_1 [0,1,5,6] [x0,x1,x5,x6] w Q).p=p)=>p) _ rz
def F29:Prop:=(λp (_:(fx H29 f29 [a0,a1] w Q).p=p)=>p) _ rz
def L29_0:Prop:=(λp (_:(nf H29 f29 T29_0 [0,1,5,6] [x0,x1,x5,x6] w Q).p=p)=>p) _ rz
def L29_1:Prop:=(λp (_:(gu H29 f29 T29_1 [0,1,5,6,7] [x0,x1,x5,x6,x7] w Q).p=p)=>p) _ rz
def F53:Prop:=(λp (_:(fx H53 Tryz.f53 [a0,a1] w Q).p=p)=>p) _ rz
def L53_0:Prop:=(λp (_:(gu H53 Tryz.f53 T53_0 [0,1,5] [x0,x1,x5] w Q).p=p)=>p) _ rz
def F55:Prop:=(λp (_:(fx H55 f55 [a0] w Q).p=p)=>p) _ rz
def L55_0:Prop:=(λp (_:(gu H55 f55 T55_0 [1,3,4] [x1,x3,x4] w Q).p=p)=>p) _ rz
def L55_1:Prop:=(λp (_:(gu H55 f55 T55_1 [1,3,4] [x1,x3,x4] w Q).p=p)=>p) _ rz
def L55_2:Prop:=(λp (_:(gu H55 f55 T55_2 [4] [x4] w Q).p=p)=>p) _ rz
def F56:Prop:=(λp (_:(fx H56 Tryz.f56 [a0,a1] w Q).p=p)=>p) _ rz
def F57:Prop:=(λp (_:(fx H57 f57 [a0,a1] w Q).p=p)=>p) _ rz
def L57_0:Prop:=(λp (_:(gu H57 f57 T57_0 [0,1,4,6,7,20,28] [x0,x1,x4,x6,x7,x20,x28] w Q).p=p)=>p) _ rz
def L57_1:Prop:=(λp (_:(gu H57 f57 T57_1 [0,1,4,6,7] [x0,x1,x4,x6,x7] w Q).p=p)=>p) _ rz
def L57_2:Prop:=(λp (_:(gu H57 f57 T57_2 [0,1,4,6,51] [x0,x1,x4,x6,x51] w Q).p=p)=>p) _ rz
def L57_3:Prop:=(λp (_:(gu H57 f57 T57_3 [0,1,4,6,7] [x0,x1,x4,x6,x7] w Q).p=p)=>p) _ rz
def L57_4:Prop:=(λp (_:(gu H57 f57 T57_4 [0,1,4,6,7] [x0,x1,x4,x6,x7] w Q).p=p)=>p) _ rz
def L57_5:Prop:=(λp (_:(gu H57 f57 T57_5 [4,6] [x4,x6] w Q).p=p)=>p) _ rz
def F58:Prop:=(λp (_:(fx H58 f58 [a0,a1] w Q).p=p)=>p) _ rz
def L58_0:Prop:=(λp (_:(gu H58 f58 T58_0 [0,1,5,7,8] [x0,x1,x5,x7,x8] w Q).p=p)=>p) _ rz
def L58_1:Prop:=(λp (_:(gu H58 f58 T58_1 [0,1,5] [x0,x1,x5] w Q).p=p)=>p) _ rz
def F90:Prop:=(λp (_:(fx H90 Tryz.f90 [a0] w Q).p=p)=>p) _ rz
def F91:Prop:=(λp (_:(fx H91 Tryz.f91 [a0] w Q).p=p)=>p) _ rz
def F92:Prop:=(λp (_:(fx H92 Tryz.f92 [a0,a1] w Q).p=p)=>p) _ rz
def F93:Prop:=(λp (_:(fx H93 Tryz.f93 [a0,a1] w Q).p=p)=>p) _ rz
def F94:Prop:=(λp (_:(fx H94 Tryz.f94 [a0,a1] w Q).p=p)=>p) _ rz
def F95:Prop:=(λp (_:(fx H95 f95 [a0] w Q).p=p)=>p) _ rz
def L95_0:Prop:=(λp (_:(nf H95 f95 T95_0 [0,4] [x0,x4] w Q).p=p)=>p) _ rz
def L95_1:Prop:=(λp (_:(gu H95 f95 T95_1 [0,4] [x0,x4] w Q).p=p)=>p) _ rz
def F96:Prop:=(λp (_:(fx H96 Tryz.f96 [a0] w Q).p=p)=>p) _ rz
def F97:Prop:=(λp (_:(fx H97 Tryz.f97 [] w Q).p=p)=>p) _ rz
def F98:Prop:=(λp (_:(fx H98 f98 [a0,a1] w Q).p=p)=>p) _ rz
def L98_0:Prop:=(λp (_:(nf H98 f98 T98_0 [0,1,5,6] [x0,x1,x5,x6] w Q).p=p)=>p) _ rz
def L98_1:Prop:=(λp (_:(nf H98 f98 T98_1 [0,1,5,6,7] [x0,x1,x5,x6,x7] w Q).p=p)=>p) _ rz
def L98_2:Prop:=(λp (_:(gu H98 f98 T98_2 [0,1,5,6,7] [x0,x1,x5,x6,x7] w Q).p=p)=>p) _ rz
def F99:Prop:=(λp (_:(fx H99 Tryz.f99 [a0,a1] w Q).p=p)=>p) _ rz
def F100:Prop:=(λp (_:(fx H100 Tryz.f100 [a0,a1] w Q).p=p)=>p) _ rz
def L100_0:Prop:=(λp (_:(nf H100 Tryz.f100 T100_0 [0,1,5] [x0,x1,x5] w Q).p=p)=>p) _ rz
def F101:Prop:=(λp (_:(fx H101 Tryz.f101 [a0,a1,a2] w Q).p=p)=>p) _ rz
def L101_0:Prop:=(λp (_:(gu H101 Tryz.f101 T101_0 [0,4,5] [x0,x4,x5] w Q).p=p)=>p) _ rz
def L101_1:Prop:=(λp (_:(gu H101 Tryz.f101 T101_1 [] [] w Q).p=p)=>p) _ rz
def F102:Prop:=(λp (_:(fx H102 f102 [a0] w Q).p=p)=>p) _ rz
def L102_0:Prop:=(λp (_:(gu H102 f102 T102_0 [] [] w Q).p=p)=>p) _ rz
def L102_1:Prop:=(λp (_:(gu H102 f102 T102_1 [0] [x0] w Q).p=p)=>p) _ rz
def L102_2:Prop:=(λp (_:(gu H102 f102 T102_2 [0,7] [x0,x7] w Q).p=p)=>p) _ rz
def F103:Prop:=(λp (_:(fx (H103 λ_=>False) f103 [a0,a1] w Q).p=p)=>p) _ rz
def L103_0:Prop:=(λp (_:(gu (H103 λ_=>False) f103 T103_0 [0,4,5] [x0,x4,x5] w Q).p=p)=>p) _ rz
def L103_1:Prop:=(λp (_:(gu (H103 D) f103 T103_1 [0,4,5] [x0,x4,x5] w Q).p=p)=>p) _ rz
def L103_2:Prop:=(λp (_:(gu (H103 λ_=>False) f103 T103_2 [0,4,5] [x0,x4,x5] w Q).p=p)=>p) _ rz
def F132:Prop:=(λp (_:(fx H132 Tryz.f132 [a0,a1,a2,a3] w Q).p=p)=>p) _ rz
def F133:Prop:=(λp (_:(fx H133 Tryz.f133 [a0] w Q).p=p)=>p) _ rz
def F134:Prop:=(λp (_:(fx H134 Tryz.f134 [a0] w Q).p=p)=>p) _ rz
def F135:Prop:=(λp (_:(fx H135 Tryz.f135 [] w Q).p=p)=>p) _ rz
def F136:Prop:=(λp (_:(fx H136 Tryz.f136 [a0,a1,a2] w Q).p=p)=>p) _ rz
def F137:Prop:=(λp (_:(fx H137 Tryz.f137 [a0,a1] w Q).p=p)=>p) _ rz
def F138:Prop:=(λp (_:(fx H138 Tryz.f138 [a0,a1] w Q).p=p)=>p) _ rz
def F139:Prop:=(λp (_:(fx H139 Tryz.f139 [a0,a1,a2,a3] w Q).p=p)=>p) _ rz
def F140:Prop:=(λp (_:(fx H140 Tryz.f140 [a0] w Q).p=p)=>p) _ rz
def F141:Prop:=(λp (_:(fx H141 Tryz.f141 [a0] w Q).p=p)=>p) _ rz
def L141_0:Prop:=(λp (_:(gu H141 Tryz.f141 T141_0 [0] [x0] w Q).p=p)=>p) _ rz
def F142:Prop:=(λp (_:(fx H142 Tryz.f142 [a0,a1,a2] w Q).p=p)=>p) _ rz
def L142_0:Prop:=(λp (_:(nf H142 Tryz.f142 T142_0 [0,1,2,7] [x0,x1,x2,x7] w Q).p=p)=>p) _ rz
def F143:Prop:=(λp (_:(fx H143 Tryz.f143 [a0,a1,a2] w Q).p=p)=>p) _ rz
def F144:Prop:=(λp (_:(fx H144 Tryz.f144 [a0] w Q).p=p)=>p) _ rz
def F145:Prop:=(λp (_:(fx H145 Tryz.f145 [a0] w Q).p=p)=>p) _ rz
def L145_0:Prop:=(λp (_:(gu H145 Tryz.f145 T145_0 [] [] w Q).p=p)=>p) _ rz
def F146:Prop:=(λp (_:(fx (H146 D) Tryz.f146 [a0] w Q).p=p)=>p) _ rz
def L146_0:Prop:=(λp (_:(gu (H146 λ_=>False) Tryz.f146 T146_0 [] [] w Q).p=p)=>p) _ rz
def F147:Prop:=(λp (_:(fx H147 Tryz.f147 [a0] w Q).p=p)=>p) _ rz
def F148:Prop:=(λp (_:(fx H148 Tryz.f148 [a0] w Q).p=p)=>p) _ rz
def F149:Prop:=(λp (_:(fx (H149 D) Tryz.f149 [a0] w Q).p=p)=>p) _ rz
def L149_0:Prop:=(λp (_:(gu (H149 λ_=>False) Tryz.f149 T149_0 [0,3] [x0,x3] w Q).p=p)=>p) _ rz
def L149_1:Prop:=(λp (_:(gu (H149 λ_=>False) Tryz.f149 T149_1 [] [] w Q).p=p)=>p) _ rz
def F150:Prop:=(λp (_:(fx H150 Tryz.f150 [a0,a1,a2] w Q).p=p)=>p) _ rz
def F151:Prop:=(λp (_:(fx H151 Tryz.f151 [a0] w Q).p=p)=>p) _ rz
def L151_0:Prop:=(λp (_:(gu H151 Tryz.f151 T151_0 [] [] w Q).p=p)=>p) _ rz
def F152:Prop:=(λp (_:(fx (H152 D) Tryz.f152 [a0] w Q).p=p)=>p) _ rz
def L152_0:Prop:=(λp (_:(gu (H152 λ_=>False) Tryz.f152 T152_0 [] [] w Q).p=p)=>p) _ rz
def F153:Prop:=(λp (_:(fx H153 Tryz.f153 [a0,a1,a2,a3,a4,a5] w Q).p=p)=>p) _ rz
def F154:Prop:=(λp (_:(fx H154 Tryz.f154 [a0] w Q).p=p)=>p) _ rz
def F172:Prop:=(λp (_:(fx H172 Tryz.f172 [a0,a1] w Q).p=p)=>p) _ rz
def F173:Prop:=(λp (_:(fx H173 Tryz.f173 [a0,a1] w Q).p=p)=>p) _ rz
def F174:Prop:=(λp (_:(fx H174 Tryz.f174 [a0,a1] w Q).p=p)=>p) _ rz
def F175:Prop:=(λp (_:(fx H175 Tryz.f175 [a0,a1,a2] w Q).p=p)=>p) _ rz
def F176:Prop:=(λp (_:(fx (H176 D) Tryz.f176 [a0] w Q).p=p)=>p) _ rz
def L176_0:Prop:=(λp (_:(gu (H176 λ_=>False) Tryz.f176 T176_0 [] [] w Q).p=p)=>p) _ rz
def F177:Prop:=(λp (_:(fx H177 Tryz.f177 [a0] w Q).p=p)=>p) _ rz
def F178:Prop:=(λp (_:(fx H178 Tryz.f178 [a0] w Q).p=p)=>p) _ rz
def F179:Prop:=(λp (_:(fx H179 Tryz.f179 [a0,a1] w Q).p=p)=>p) _ rz
def F180:Prop:=(λp (_:(fx H180 Tryz.f180 [a0,a1] w Q).p=p)=>p) _ rz
def F181:Prop:=(λp (_:(fx H181 Tryz.f181 [a0] w Q).p=p)=>p) _ rz
def F182:Prop:=(λp (_:(fx H182 Tryz.f182 [a0,a1,a2] w Q).p=p)=>p) _ rz
def F183:Prop:=(λp (_:(fx H183 Tryz.f183 [a0] w Q).p=p)=>p) _ rz
def F184:Prop:=(λp (_:(fx H184 Tryz.f184 [a0,a1,a2,a3] w Q).p=p)=>p) _ rz
def F185:Prop:=(λp (_:(fx H185 Tryz.f185 [a0,a1,a2] w Q).p=p)=>p) _ rz
def F186:Prop:=(λp (_:(fx H186 Tryz.f186 [a0] w Q).p=p)=>p) _ rz
def F187:Prop:=(λp (_:(fx H187 Tryz.f187 [a0] w Q).p=p)=>p) _ rz
def L187_0:Prop:=(λp (_:(gu H187 Tryz.f187 T187_0 [] [] w Q).p=p)=>p) _ rz
def L187_1:Prop:=(λp (_:(gu H187 Tryz.f187 T187_1 [0] [x0] w Q).p=p)=>p) _ rz
def F188:Prop:=(λp (_:(fx H188 Tryz.f188 [a0] w Q).p=p)=>p) _ rz
def F189:Prop:=(λp (_:(fx H189 Tryz.f189 [a0,a1,a2] w Q).p=p)=>p) _ rz
def F190:Prop:=(λp (_:(fx H190 Tryz.f190 [a0] w Q).p=p)=>p) _ rz
def F191:Prop:=(λp (_:(fx H191 Tryz.f191 [a0] w Q).p=p)=>p) _ rz
def F192:Prop:=(λp (_:(fx H192 Tryz.f192 [a0] w Q).p=p)=>p) _ rz
def F193:Prop:=(λp (_:(fx H193 Tryz.f193 [a0,a1] w Q).p=p)=>p) _ rz
def F194:Prop:=(λp (_:(fx (H194 D) Tryz.f194 [a0] w Q).p=p)=>p) _ rz
def L194_0:Prop:=(λp (_:(gu (H194 λ_=>False) Tryz.f194 T194_0 [0] [x0] w Q).p=p)=>p) _ rz
def L194_1:Prop:=(λp (_:(gu (H194 λ_=>False) Tryz.f194 T194_1 [0] [x0] w Q).p=p)=>p) _ rz
def F195:Prop:=(λp (_:(fx H195 Tryz.f195 [a0] w Q).p=p)=>p) _ rz
def F196:Prop:=(λp (_:(fx H196 Tryz.f196 [a0,a1] w Q).p=p)=>p) _ rz
def F197:Prop:=(λp (_:(fx (H197 D) Tryz.f197 [a0] w Q).p=p)=>p) _ rz
def L197_0:Prop:=(λp (_:(gu (H197 λ_=>False) Tryz.f197 T197_0 [] [] w Q).p=p)=>p) _ rz
def F198:Prop:=(λp (_:(fx H198 Tryz.f198 [a0,a1,a2] w Q).p=p)=>p) _ rz
def F199:Prop:=(λp (_:(fx (H199 D) Tryz.f199 [a0] w Q).p=p)=>p) _ rz
def L199_0:Prop:=(λp (_:(gu (H199 λ_=>False) Tryz.f199 T199_0 [] [] w Q).p=p)=>p) _ rz
def F200:Prop:=(λp (_:(fx H200 Tryz.f200 [a0] w Q).p=p)=>p) _ rz
def F201:Prop:=(λp (_:(fx H201 Tryz.f201 [a0] w Q).p=p)=>p) _ rz
def L201_0:Prop:=(λp (_:(gu H201 Tryz.f201 T201_0 [0] [x0] w Q).p=p)=>p) _ rz
def F202:Prop:=(λp (_:(fx H202 Tryz.f202 [a0,a1] w Q).p=p)=>p) _ rz
def F203:Prop:=(λp (_:(fx H203 Tryz.f203 [a0] w Q).p=p)=>p) _ rz
def F204:Prop:=(λp (_:(fx H204 Tryz.f204 [a0,a1,a2] w Q).p=p)=>p) _ rz
def F205:Prop:=(λp (_:(fx H205 Tryz.f205 [a0,a1] w Q).p=p)=>p) _ rz
def F211:Prop:=(λp (_:(fx H211 Tryz.f211 [a0,a1,a2] w Q).p=p)=>p) _ rz
def F212:Prop:=(λp (_:(fx H212 Tryz.f212 [a0,a1] w Q).p=p)=>p) _ rz
def F213:Prop:=(λp (_:(fx H213 Tryz.f213 [a0,a1] w Q).p=p)=>p) _ rz
def F214:Prop:=(λp (_:(fx H214 Tryz.f214 [a0,a1] w Q).p=p)=>p) _ rz
def F215:Prop:=(λp (_:(fx H215 Tryz.f215 [a0] w Q).p=p)=>p) _ rz
def L215_0:Prop:=(λp (_:(gu H215 Tryz.f215 T215_0 [0] [x0] w Q).p=p)=>p) _ rz
def F216:Prop:=(λp (_:(fx H216 Tryz.f216 [a0] w Q).p=p)=>p) _ rz
def L216_0:Prop:=(λp (_:(gu H216 Tryz.f216 T216_0 [3] [x3] w Q).p=p)=>p) _ rz
def F217:Prop:=(λp (_:(fx H217 Tryz.f217 [a0] w Q).p=p)=>p) _ rz
def F218:Prop:=(λp (_:(fx H218 Tryz.f218 [a0] w Q).p=p)=>p) _ rz
def F219:Prop:=(λp (_:(fx H219 Tryz.f219 [a0,a1] w Q).p=p)=>p) _ rz
def F220:Prop:=(λp (_:(fx H220 Tryz.f220 [a0,a1] w Q).p=p)=>p) _ rz
def F221:Prop:=(λp (_:(fx H221 Tryz.f221 [a0,a1,a2] w Q).p=p)=>p) _ rz
def L221_0:Prop:=(λp (_:(gu H221 Tryz.f221 T221_0 [0,1,2,8,9] [x0,x1,x2,x8,x9] w Q).p=p)=>p) _ rz
def F222:Prop:=(λp (_:(fx H222 Tryz.f222 [a0,a1] w Q).p=p)=>p) _ rz
def F223:Prop:=(λp (_:(fx H223 Tryz.f223 [a0] w Q).p=p)=>p) _ rz
def F224:Prop:=(λp (_:(fx H224 Tryz.f224 [a0] w Q).p=p)=>p) _ rz
def F225:Prop:=(λp (_:(fx H225 Tryz.f225 [a0,a1] w Q).p=p)=>p) _ rz
def L225_0:Prop:=(λp (_:(nf H225 Tryz.f225 T225_0 [0,1,5] [x0,x1,x5] w Q).p=p)=>p) _ rz
def F226:Prop:=(λp (_:(fx H226 Tryz.f226 [a0] w Q).p=p)=>p) _ rz
def F227:Prop:=(λp (_:(fx H227 Tryz.f227 [a0] w Q).p=p)=>p) _ rz
def F228:Prop:=(λp (_:(fx H228 Tryz.f228 [a0,a1] w Q).p=p)=>p) _ rz
def F229:Prop:=(λp (_:(fx H229 Tryz.f229 [a0] w Q).p=p)=>p) _ rz
def F230:Prop:=(λp (_:(fx H230 Tryz.f230 [a0] w Q).p=p)=>p) _ rz
def F231:Prop:=(λp (_:(fx H231 Tryz.f231 [a0,a1] w Q).p=p)=>p) _ rz
def F232:Prop:=(λp (_:(fx H232 Tryz.f232 [a0,a1] w Q).p=p)=>p) _ rz
def L232_0:Prop:=(λp (_:(nf H232 Tryz.f232 T232_0 [0,1,5,6] [x0,x1,x5,x6] w Q).p=p)=>p) _ rz
def L232_1:Prop:=(λp (_:(gu H232 Tryz.f232 T232_1 [0,1,5,6] [x0,x1,x5,x6] w Q).p=p)=>p) _ rz
end
section
variable{D:Nat->Prop}{a0 a1 a2 a3 a4 a5 a6 x0 x1 x2 x3 x4 x5 x6 x7 x8 x9 gG iZ oU x13 x14 x15 x16 x17 x18 x19 x20 x21 x22 x23 x24 x25 x26 x27 x28 x29 x30 x31 x32 x33 x34 x35 x36 x37 x38 x39 x40 x41 x42 x43 x44 x45 x46 x47 x48 x49 x50 x51:Value}{w:World}{Q:QQ}
theorem F10_ok(h:F10 a0 a1 a2 a3 w Q):aa prog 10 [a0,a1,a2,a3] w Q:=cG H10 Tryz.func10 h
theorem L10_0_ok(h:L10_0 x3 x8 gG iZ oU w Q):P10_0 x3 x8 gG iZ oU w Q:=pJ H10 Tryz.func10 h
theorem F25_ok(h:F25 a0 w Q):aa prog 25 [a0] w Q:=cG H25 Tryz.func25 h
theorem F26_ok(h:F26 a0 a1 w Q):aa prog 26 [a0,a1] w Q:=cG H26 func26 h
theorem L26_0_ok(h:L26_0 x1 x2 x6 w Q):P26_0 x1 x2 x6 w Q:=pL H26 func26 h
theorem L26_1_ok(h:L26_1 x1 x2 x7 x8 w Q):P26_1 x1 x2 x7 x8 w Q:=pL H26 func26 h
theorem L26_2_ok(h:L26_2 x1 x2 x7 x8 x9 w Q):P26_2 x1 x2 x7 x8 x9 w Q:=pJ H26 func26 h
theorem L26_3_ok(h:L26_3 x1 x2 x7 x8 w Q):P26_3 x1 x2 x7 x8 w Q:=pJ H26 func26 h
theorem F27_ok(h:F27 a0 a1 a2 w Q):aa prog 27 [a0,a1,a2] w Q:=cG H27 Tryz.func27 h
theorem L27_0_ok(h:L27_0 x0 x1 x2 x7 x8 x9 w Q):P27_0 x0 x1 x2 x7 x8 x9 w Q:=pL H27 Tryz.func27 h
theorem L27_1_ok(h:L27_1 x0 x1 x2 x7 x8 x9 w Q):P27_1 x0 x1 x2 x7 x8 x9 w Q:=pJ H27 Tryz.func27 h
theorem F28_ok(h:F28 a0 a1 w Q):aa prog 28 [a0,a1] w Q:=cG H28 Tryz.func28 h
theorem L28_0_ok(h:L28_0 x0 x1 x5 x6 w Q):P28_0 x0 x1 x5 x6 w Q:=pL H28 Tryz.func28 h
theorem L28_1_ok(h:L28_1 x0 x1 x5 x6 w Q):P28_1 x0 x1 x5 x6 w Q:=pJ H28 Tryz.func28 h
theorem F29_ok(h:F29 a0 a1 w Q):aa prog 29 [a0,a1] w Q:=cG H29 Tryz.func29 h
theorem L29_0_ok(h:L29_0 x0 x1 x5 x6 w Q):P29_0 x0 x1 x5 x6 w Q:=pL H29 Tryz.func29 h
theorem L29_1_ok(h:L29_1 x0 x1 x5 x6 x7 w Q):P29_1 x0 x1 x5 x6 x7 w Q:=pJ H29 Tryz.func29 h
theorem F53_ok(h:F53 a0 a1 w Q):aa prog 53 [a0,a1] w Q:=cG H53 Tryz.func53 h
theorem L53_0_ok(h:L53_0 x0 x1 x5 w Q):P53_0 x0 x1 x5 w Q:=pJ H53 Tryz.func53 h
theorem F55_ok(h:F55 a0 w Q):aa prog 55 [a0] w Q:=cG H55 Tryz.func55 h
theorem L55_0_ok(h:L55_0 x1 x3 x4 w Q):P55_0 x1 x3 x4 w Q:=pJ H55 Tryz.func55 h
theorem L55_1_ok(h:L55_1 x1 x3 x4 w Q):P55_1 x1 x3 x4 w Q:=pJ H55 Tryz.func55 h
theorem L55_2_ok(h:L55_2 x4 w Q):P55_2 x4 w Q:=pJ H55 Tryz.func55 h
theorem F56_ok(h:F56 a0 a1 w Q):aa prog 56 [a0,a1] w Q:=cG H56 Tryz.func56 h
theorem F57_ok(h:F57 a0 a1 w Q):aa prog 57 [a0,a1] w Q:=cG H57 func57 h
theorem L57_0_ok(h:L57_0 x0 x1 x4 x6 x7 x20 x28 w Q):P57_0 x0 x1 x4 x6 x7 x20 x28 w Q:=pJ H57 func57 h
theorem L57_1_ok(h:L57_1 x0 x1 x4 x6 x7 w Q):P57_1 x0 x1 x4 x6 x7 w Q:=pJ H57 func57 h
theorem L57_2_ok(h:L57_2 x0 x1 x4 x6 x51 w Q):P57_2 x0 x1 x4 x6 x51 w Q:=pJ H57 func57 h
theorem L57_3_ok(h:L57_3 x0 x1 x4 x6 x7 w Q):P57_3 x0 x1 x4 x6 x7 w Q:=pJ H57 func57 h
theorem L57_4_ok(h:L57_4 x0 x1 x4 x6 x7 w Q):P57_4 x0 x1 x4 x6 x7 w Q:=pJ H57 func57 h
theorem L57_5_ok(h:L57_5 x4 x6 w Q):P57_5 x4 x6 w Q:=pJ H57 func57 h
theorem F58_ok(h:F58 a0 a1 w Q):aa prog 58 [a0,a1] w Q:=cG H58 Tryz.func58 h
theorem L58_0_ok(h:L58_0 x0 x1 x5 x7 x8 w Q):P58_0 x0 x1 x5 x7 x8 w Q:=pJ H58 Tryz.func58 h
theorem L58_1_ok(h:L58_1 x0 x1 x5 w Q):P58_1 x0 x1 x5 w Q:=pJ H58 Tryz.func58 h
theorem F90_ok(h:F90 a0 w Q):aa prog 90 [a0] w Q:=cG H90 Tryz.func90 h
theorem F91_ok(h:F91 a0 w Q):aa prog 91 [a0] w Q:=cG H91 Tryz.func91 h
theorem F92_ok(h:F92 a0 a1 w Q):aa prog 92 [a0,a1] w Q:=cG H92 Tryz.func92 h
theorem F93_ok(h:F93 a0 a1 w Q):aa prog 93 [a0,a1] w Q:=cG H93 Tryz.func93 h
theorem F94_ok(h:F94 a0 a1 w Q):aa prog 94 [a0,a1] w Q:=cG H94 Tryz.func94 h
theorem F95_ok(h:F95 a0 w Q):aa prog 95 [a0] w Q:=cG H95 Tryz.func95 h
theorem L95_0_ok(h:L95_0 x0 x4 w Q):P95_0 x0 x4 w Q:=pL H95 Tryz.func95 h
theorem L95_1_ok(h:L95_1 x0 x4 w Q):P95_1 x0 x4 w Q:=pJ H95 Tryz.func95 h
theorem F96_ok(h:F96 a0 w Q):aa prog 96 [a0] w Q:=cG H96 Tryz.func96 h
theorem F97_ok(h:F97  w Q):aa prog 97 [] w Q:=cG H97 Tryz.func97 h
theorem F98_ok(h:F98 a0 a1 w Q):aa prog 98 [a0,a1] w Q:=cG H98 Tryz.func98 h
theorem L98_0_ok(h:L98_0 x0 x1 x5 x6 w Q):P98_0 x0 x1 x5 x6 w Q:=pL H98 Tryz.func98 h
theorem L98_1_ok(h:L98_1 x0 x1 x5 x6 x7 w Q):P98_1 x0 x1 x5 x6 x7 w Q:=pL H98 Tryz.func98 h
theorem L98_2_ok(h:L98_2 x0 x1 x5 x6 x7 w Q):P98_2 x0 x1 x5 x6 x7 w Q:=pJ H98 Tryz.func98 h
theorem F99_ok(h:F99 a0 a1 w Q):aa prog 99 [a0,a1] w Q:=cG H99 Tryz.func99 h
theorem F100_ok(h:F100 a0 a1 w Q):aa prog 100 [a0,a1] w Q:=cG H100 Tryz.func100 h
theorem L100_0_ok(h:L100_0 x0 x1 x5 w Q):P100_0 x0 x1 x5 w Q:=pL H100 Tryz.func100 h
theorem F101_ok(h:F101 a0 a1 a2 w Q):aa prog 101 [a0,a1,a2] w Q:=cG H101 Tryz.func101 h
theorem L101_0_ok(h:L101_0 x0 x4 x5 w Q):P101_0 x0 x4 x5 w Q:=pJ H101 Tryz.func101 h
theorem L101_1_ok(h:L101_1  w Q):P101_1  w Q:=pJ H101 Tryz.func101 h
theorem F102_ok(h:F102 a0 w Q):aa prog 102 [a0] w Q:=cG H102 Tryz.func102 h
theorem L102_0_ok(h:L102_0  w Q):P102_0  w Q:=pJ H102 Tryz.func102 h
theorem L102_1_ok(h:L102_1 x0 w Q):P102_1 x0 w Q:=pJ H102 Tryz.func102 h
theorem L102_2_ok(h:L102_2 x0 x7 w Q):P102_2 x0 x7 w Q:=pJ H102 Tryz.func102 h
theorem F103_ok(h:F103 a0 a1 w Q):aa prog 103 [a0,a1] w Q:=cG (H103 λ_=>False) Tryz.func103 h
theorem L103_0_ok(h:L103_0 x0 x4 x5 w Q):P103_0 x0 x4 x5 w Q:=pJ (H103 λ_=>False) Tryz.func103 h
theorem L103_1_ok(h:L103_1 D x0 x4 x5 w Q):P103_1 x0 x4 x5 w Q:=pJ (H103 D) Tryz.func103 h
theorem L103_2_ok(h:L103_2 x0 x4 x5 w Q):P103_2 x0 x4 x5 w Q:=pJ (H103 λ_=>False) Tryz.func103 h
theorem F132_ok(h:F132 a0 a1 a2 a3 w Q):aa prog 132 [a0,a1,a2,a3] w Q:=cG H132 Tryz.func132 h
theorem F133_ok(h:F133 a0 w Q):aa prog 133 [a0] w Q:=cG H133 Tryz.func133 h
theorem F134_ok(h:F134 a0 w Q):aa prog 134 [a0] w Q:=cG H134 Tryz.func134 h
theorem F135_ok(h:F135  w Q):aa prog 135 [] w Q:=cG H135 Tryz.func135 h
theorem F136_ok(h:F136 a0 a1 a2 w Q):aa prog 136 [a0,a1,a2] w Q:=cG H136 Tryz.func136 h
theorem F137_ok(h:F137 a0 a1 w Q):aa prog 137 [a0,a1] w Q:=cG H137 Tryz.func137 h
theorem F138_ok(h:F138 a0 a1 w Q):aa prog 138 [a0,a1] w Q:=cG H138 Tryz.func138 h
theorem F139_ok(h:F139 a0 a1 a2 a3 w Q):aa prog 139 [a0,a1,a2,a3] w Q:=cG H139 Tryz.func139 h
theorem F140_ok(h:F140 a0 w Q):aa prog 140 [a0] w Q:=cG H140 Tryz.func140 h
theorem F141_ok(h:F141 a0 w Q):aa prog 141 [a0] w Q:=cG H141 Tryz.func141 h
theorem L141_0_ok(h:L141_0 x0 w Q):P141_0 x0 w Q:=pJ H141 Tryz.func141 h
theorem F142_ok(h:F142 a0 a1 a2 w Q):aa prog 142 [a0,a1,a2] w Q:=cG H142 Tryz.func142 h
theorem L142_0_ok(h:L142_0 x0 x1 x2 x7 w Q):P142_0 x0 x1 x2 x7 w Q:=pL H142 Tryz.func142 h
theorem F143_ok(h:F143 a0 a1 a2 w Q):aa prog 143 [a0,a1,a2] w Q:=cG H143 Tryz.func143 h
theorem F144_ok(h:F144 a0 w Q):aa prog 144 [a0] w Q:=cG H144 Tryz.func144 h
theorem F145_ok(h:F145 a0 w Q):aa prog 145 [a0] w Q:=cG H145 Tryz.func145 h
theorem L145_0_ok(h:L145_0  w Q):P145_0  w Q:=pJ H145 Tryz.func145 h
theorem F146_ok(h:F146 D a0 w Q):aa prog 146 [a0] w Q:=cG (H146 D) Tryz.func146 h
theorem L146_0_ok(h:L146_0  w Q):P146_0  w Q:=pJ (H146 λ_=>False) Tryz.func146 h
theorem F147_ok(h:F147 a0 w Q):aa prog 147 [a0] w Q:=cG H147 Tryz.func147 h
theorem F148_ok(h:F148 a0 w Q):aa prog 148 [a0] w Q:=cG H148 Tryz.func148 h
theorem F149_ok(h:F149 D a0 w Q):aa prog 149 [a0] w Q:=cG (H149 D) Tryz.func149 h
theorem L149_0_ok(h:L149_0 x0 x3 w Q):P149_0 x0 x3 w Q:=pJ (H149 λ_=>False) Tryz.func149 h
theorem L149_1_ok(h:L149_1  w Q):P149_1  w Q:=pJ (H149 λ_=>False) Tryz.func149 h
theorem F150_ok(h:F150 a0 a1 a2 w Q):aa prog 150 [a0,a1,a2] w Q:=cG H150 Tryz.func150 h
theorem F151_ok(h:F151 a0 w Q):aa prog 151 [a0] w Q:=cG H151 Tryz.func151 h
theorem L151_0_ok(h:L151_0  w Q):P151_0  w Q:=pJ H151 Tryz.func151 h
theorem F152_ok(h:F152 D a0 w Q):aa prog 152 [a0] w Q:=cG (H152 D) Tryz.func152 h
theorem L152_0_ok(h:L152_0  w Q):P152_0  w Q:=pJ (H152 λ_=>False) Tryz.func152 h
theorem F153_ok(h:F153 a0 a1 a2 a3 a4 a5 w Q):aa prog 153 [a0,a1,a2,a3,a4,a5] w Q:=cG H153 Tryz.func153 h
theorem F154_ok(h:F154 a0 w Q):aa prog 154 [a0] w Q:=cG H154 Tryz.func154 h
theorem F172_ok(h:F172 a0 a1 w Q):aa prog 172 [a0,a1] w Q:=cG H172 Tryz.func172 h
theorem F173_ok(h:F173 a0 a1 w Q):aa prog 173 [a0,a1] w Q:=cG H173 Tryz.func173 h
theorem F174_ok(h:F174 a0 a1 w Q):aa prog 174 [a0,a1] w Q:=cG H174 Tryz.func174 h
theorem F175_ok(h:F175 a0 a1 a2 w Q):aa prog 175 [a0,a1,a2] w Q:=cG H175 Tryz.func175 h
theorem F176_ok(h:F176 D a0 w Q):aa prog 176 [a0] w Q:=cG (H176 D) Tryz.func176 h
theorem L176_0_ok(h:L176_0  w Q):P176_0  w Q:=pJ (H176 λ_=>False) Tryz.func176 h
theorem F177_ok(h:F177 a0 w Q):aa prog 177 [a0] w Q:=cG H177 Tryz.func177 h
theorem F178_ok(h:F178 a0 w Q):aa prog 178 [a0] w Q:=cG H178 Tryz.func178 h
theorem F179_ok(h:F179 a0 a1 w Q):aa prog 179 [a0,a1] w Q:=cG H179 Tryz.func179 h
theorem F180_ok(h:F180 a0 a1 w Q):aa prog 180 [a0,a1] w Q:=cG H180 Tryz.func180 h
theorem F181_ok(h:F181 a0 w Q):aa prog 181 [a0] w Q:=cG H181 Tryz.func181 h
theorem F182_ok(h:F182 a0 a1 a2 w Q):aa prog 182 [a0,a1,a2] w Q:=cG H182 Tryz.func182 h
theorem F183_ok(h:F183 a0 w Q):aa prog 183 [a0] w Q:=cG H183 Tryz.func183 h
theorem F184_ok(h:F184 a0 a1 a2 a3 w Q):aa prog 184 [a0,a1,a2,a3] w Q:=cG H184 Tryz.func184 h
theorem F185_ok(h:F185 a0 a1 a2 w Q):aa prog 185 [a0,a1,a2] w Q:=cG H185 Tryz.func185 h
theorem F186_ok(h:F186 a0 w Q):aa prog 186 [a0] w Q:=cG H186 Tryz.func186 h
theorem F187_ok(h:F187 a0 w Q):aa prog 187 [a0] w Q:=cG H187 Tryz.func187 h
theorem L187_0_ok(h:L187_0  w Q):P187_0  w Q:=pJ H187 Tryz.func187 h
theorem L187_1_ok(h:L187_1 x0 w Q):P187_1 x0 w Q:=pJ H187 Tryz.func187 h
theorem F188_ok(h:F188 a0 w Q):aa prog 188 [a0] w Q:=cG H188 Tryz.func188 h
theorem F189_ok(h:F189 a0 a1 a2 w Q):aa prog 189 [a0,a1,a2] w Q:=cG H189 Tryz.func189 h
theorem F190_ok(h:F190 a0 w Q):aa prog 190 [a0] w Q:=cG H190 Tryz.func190 h
theorem F191_ok(h:F191 a0 w Q):aa prog 191 [a0] w Q:=cG H191 Tryz.func191 h
theorem F192_ok(h:F192 a0 w Q):aa prog 192 [a0] w Q:=cG H192 Tryz.func192 h
theorem F193_ok(h:F193 a0 a1 w Q):aa prog 193 [a0,a1] w Q:=cG H193 Tryz.func193 h
theorem F194_ok(h:F194 D a0 w Q):aa prog 194 [a0] w Q:=cG (H194 D) Tryz.func194 h
theorem L194_0_ok(h:L194_0 x0 w Q):P194_0 x0 w Q:=pJ (H194 λ_=>False) Tryz.func194 h
theorem L194_1_ok(h:L194_1 x0 w Q):P194_1 x0 w Q:=pJ (H194 λ_=>False) Tryz.func194 h
theorem F195_ok(h:F195 a0 w Q):aa prog 195 [a0] w Q:=cG H195 Tryz.func195 h
theorem F196_ok(h:F196 a0 a1 w Q):aa prog 196 [a0,a1] w Q:=cG H196 Tryz.func196 h
theorem F197_ok(h:F197 D a0 w Q):aa prog 197 [a0] w Q:=cG (H197 D) Tryz.func197 h
theorem L197_0_ok(h:L197_0  w Q):P197_0  w Q:=pJ (H197 λ_=>False) Tryz.func197 h
theorem F198_ok(h:F198 a0 a1 a2 w Q):aa prog 198 [a0,a1,a2] w Q:=cG H198 Tryz.func198 h
theorem F199_ok(h:F199 D a0 w Q):aa prog 199 [a0] w Q:=cG (H199 D) Tryz.func199 h
theorem L199_0_ok(h:L199_0  w Q):P199_0  w Q:=pJ (H199 λ_=>False) Tryz.func199 h
theorem F200_ok(h:F200 a0 w Q):aa prog 200 [a0] w Q:=cG H200 Tryz.func200 h
theorem F201_ok(h:F201 a0 w Q):aa prog 201 [a0] w Q:=cG H201 Tryz.func201 h
theorem L201_0_ok(h:L201_0 x0 w Q):P201_0 x0 w Q:=pJ H201 Tryz.func201 h
theorem F202_ok(h:F202 a0 a1 w Q):aa prog 202 [a0,a1] w Q:=cG H202 Tryz.func202 h
theorem F203_ok(h:F203 a0 w Q):aa prog 203 [a0] w Q:=cG H203 Tryz.func203 h
theorem F204_ok(h:F204 a0 a1 a2 w Q):aa prog 204 [a0,a1,a2] w Q:=cG H204 Tryz.func204 h
theorem F205_ok(h:F205 a0 a1 w Q):aa prog 205 [a0,a1] w Q:=cG H205 Tryz.func205 h
theorem F211_ok(h:F211 a0 a1 a2 w Q):aa prog 211 [a0,a1,a2] w Q:=cG H211 Tryz.func211 h
theorem F212_ok(h:F212 a0 a1 w Q):aa prog 212 [a0,a1] w Q:=cG H212 Tryz.func212 h
theorem F213_ok(h:F213 a0 a1 w Q):aa prog 213 [a0,a1] w Q:=cG H213 Tryz.func213 h
theorem F214_ok(h:F214 a0 a1 w Q):aa prog 214 [a0,a1] w Q:=cG H214 Tryz.func214 h
theorem F215_ok(h:F215 a0 w Q):aa prog 215 [a0] w Q:=cG H215 Tryz.func215 h
theorem L215_0_ok(h:L215_0 x0 w Q):P215_0 x0 w Q:=pJ H215 Tryz.func215 h
theorem F216_ok(h:F216 a0 w Q):aa prog 216 [a0] w Q:=cG H216 Tryz.func216 h
theorem L216_0_ok(h:L216_0 x3 w Q):P216_0 x3 w Q:=pJ H216 Tryz.func216 h
theorem F217_ok(h:F217 a0 w Q):aa prog 217 [a0] w Q:=cG H217 Tryz.func217 h
theorem F218_ok(h:F218 a0 w Q):aa prog 218 [a0] w Q:=cG H218 Tryz.func218 h
theorem F219_ok(h:F219 a0 a1 w Q):aa prog 219 [a0,a1] w Q:=cG H219 Tryz.func219 h
theorem F220_ok(h:F220 a0 a1 w Q):aa prog 220 [a0,a1] w Q:=cG H220 Tryz.func220 h
theorem F221_ok(h:F221 a0 a1 a2 w Q):aa prog 221 [a0,a1,a2] w Q:=cG H221 Tryz.func221 h
theorem L221_0_ok(h:L221_0 x0 x1 x2 x8 x9 w Q):P221_0 x0 x1 x2 x8 x9 w Q:=pJ H221 Tryz.func221 h
theorem F222_ok(h:F222 a0 a1 w Q):aa prog 222 [a0,a1] w Q:=cG H222 Tryz.func222 h
theorem F223_ok(h:F223 a0 w Q):aa prog 223 [a0] w Q:=cG H223 Tryz.func223 h
theorem F224_ok(h:F224 a0 w Q):aa prog 224 [a0] w Q:=cG H224 Tryz.func224 h
theorem F225_ok(h:F225 a0 a1 w Q):aa prog 225 [a0,a1] w Q:=cG H225 Tryz.func225 h
theorem L225_0_ok(h:L225_0 x0 x1 x5 w Q):P225_0 x0 x1 x5 w Q:=pL H225 Tryz.func225 h
theorem F226_ok(h:F226 a0 w Q):aa prog 226 [a0] w Q:=cG H226 Tryz.func226 h
theorem F227_ok(h:F227 a0 w Q):aa prog 227 [a0] w Q:=cG H227 Tryz.func227 h
theorem F228_ok(h:F228 a0 a1 w Q):aa prog 228 [a0,a1] w Q:=cG H228 Tryz.func228 h
theorem F229_ok(h:F229 a0 w Q):aa prog 229 [a0] w Q:=cG H229 Tryz.func229 h
theorem F230_ok(h:F230 a0 w Q):aa prog 230 [a0] w Q:=cG H230 Tryz.func230 h
theorem F231_ok(h:F231 a0 a1 w Q):aa prog 231 [a0,a1] w Q:=cG H231 Tryz.func231 h
theorem F232_ok(h:F232 a0 a1 w Q):aa prog 232 [a0,a1] w Q:=cG H232 Tryz.func232 h
theorem L232_0_ok(h:L232_0 x0 x1 x5 x6 w Q):P232_0 x0 x1 x5 x6 w Q:=pL H232 Tryz.func232 h
theorem L232_1_ok(h:L232_1 x0 x1 x5 x6 w Q):P232_1 x0 x1 x5 x6 w Q:=pJ H232 Tryz.func232 h
end
end Go.Proofs.YtnpflajdbchghaaGreat
namespace Go.Proofs.YtnpflajdbchghaaGreat.Ev
open Tryz(f102 f103 f26 f27 f28 f29 f55 f57 f58 f95 f98 func26 func57 prog)
open Go Go.RowKit
theorem aW.sq{F:Fp}{a b c:World}(h:aW F a b)(k:aW F b c):aW F a c:=(aO.trans (F:=F) (G:=F) (H:=F) ⟨h,λ_ d=> .inl d⟩ ⟨k,λ_ d=> .inl d⟩).aw
inductive fQ where
 |v (u:Value)
 |gr (e:TypeId) (z n:Nat) (us:List Value)
inductive Nod where
 |st (o:Nat) (e:TypeId) (cs:List fQ)
 |own (b k:Nat)
abbrev dN:=Nat->Option Nod
def fU(w:World)(T:dN)(b k:Nat)(c:fQ)(v:Value):Prop:=match c with
 | .v u=>v=u
 | .gr e z n us=>w.ownsRow 0 e z v n us/\∀p,v.ownBlock=some p->T p=some (.own b k)
structure m7(w:World)(T:dN)(b:Nat)(e:TypeId)(cs:List fQ)(vs:List Value):Prop where
 hb:hp w b=some (.cells vs.toArray e)
 len:vs.length=cs.length
 each:∀(k:Nat) (c:fQ) (v:Value),cs[k]? =some c->vs[k]? =some v->fU w T b k c v
structure Rel(w:World)(T:dN):Prop where
 node:∀b o e cs,T b=some (.st o e cs)->∃vs,m7 w T b e cs vs
 lt:∀b nd,T b=some nd->b<w.heap.size
theorem fU.frame{w w':World}{T:dN}{b k:Nat}{c:fQ}{v:Value}(h:fU w T b k c v)(d:aW (λk=>T k=none) w w'):fU w' T b k c v:=by
 cases c with
 |v u=>exact h
 |gr e z n us=>exact⟨d.row h.1 λp hp a=>(by rw[h.2 p hp]at a;cases a),h.2⟩
theorem Rel.frame{w w':World}{T:dN}(R:Rel w T)(a:aW (λk=>T k=none) w w'):Rel w' T:=
 ⟨λb o e cs hT=>by
  obtain⟨vs,h⟩:=R.node b o e cs hT;exact⟨vs,a.at h.hb (λd=>by rw[hT]at d;cases d),h.len,λk c v f g=>(h.each k c v f g).frame a⟩,
  λb i hT=>cY (R.lt b i hT) a.size⟩
theorem Rel.aw{w w':World}{T:dN}(R:Rel w T)(a:ad [] w w'):Rel w' T:=R.frame (aW.bV a _)
theorem Rel.fresh{w:World}{T:dN}(R:Rel w T){b:Nat}(hb:w.heap.size<=b):T b=none:=by
 cases h:T b with
 |none=>rfl
 |some a=>have:=R.lt b a h;omega
structure Gx(S:Nat->Prop)(w:World)(T:dN)(w':World)(T':dN):Prop where
 rel:Rel w' T'
 aw:aW (λk=>T k≠none) w w'
 off:∀k nd,T k=some nd->¬S k->T' k=some nd
 own:∀k b j,T k=some (.own b j)->T' k=some (.own b j)
 non:∀k,k<w.heap.size->T k=none->T' k=none
 ty:∀k o e cs,T k=some (.st o e cs)->∃cs',T' k=some (.st o e cs')
theorem Gx.refl{S:Nat->Prop}{w:World}{T:dN}(R:Rel w T):Gx S w T w T:=⟨R,aW.refl _ _,λ_ _ h _=>h,λ_ _ _ h=>h,λ_ _ h=>h,λ_ _ _ cs h=>⟨cs,h⟩⟩
theorem Gx.bV{S:Nat->Prop}{w w':World}{T:dN}(R:Rel w T)(a:ad [] w w'):Gx S w T w' T:=⟨R.aw a,aW.bV a _,λ_ _ h _=>h,λ_ _ _ h=>h,λ_ _ h=>h,λ_ _ _ cs h=>⟨cs,h⟩⟩
theorem Gx.mono{S S':Nat->Prop}{w w':World}{T a:dN}(g:Gx S w T w' a)(h:∀k,S k->S' k):Gx S' w T w' a:=⟨g.rel,g.aw,λk b hT c=>g.off k b hT λd=>c (h k d),g.own,g.non,g.ty⟩
theorem Gx.trans{S:Nat->Prop}{w w1 w2:World}{T f i:dN}(g:Gx S w T w1 f)(h:Gx S w1 f w2 i):Gx S w T w2 i:=
 ⟨h.rel,⟨h.aw.os.trans g.aw.os,h.aw.tape.trans g.aw.tape,h.aw.output.trans g.aw.output,cQ g.aw.size h.aw.size,λk c a=>by
  have a:T k=none:=Classical.not_not.1 a;have:=g.non k c a;rw[h.aw.block k (cY c g.aw.size) (λhh=>hh this),g.aw.block k c (λhh=>hh a)]⟩,
  λk l hT a=>h.off k l (g.off k l hT a) a,λk b j hT=>h.own k b j (g.own k b j hT),λk c a=>h.non k (cY c g.aw.size) (g.non k c a),λk o e cs hT=>(g.ty k o e cs hT).elim λd m=>h.ty k o e d m⟩
theorem Gx.then{S S':Nat->Prop}{w w1 w2:World}{T f i:dN}(g:Gx S w T w1 f)(h:Gx S' w1 f w2 i)(m:∀k a,T k=some a->S' k->S k):Gx S w T w2 i:=
 ⟨h.rel,(g.mono (S':=λk=>S k\/S' k) (λ_ h=> .inl h)).trans (h.mono λ_ h=> .inr h) |>.aw,
  λk a hT c=>h.off k a (g.off k a hT c) (λn=>c (m k a hT n)),λk b j hT=>h.own k b j (g.own k b j hT),λk l c=>h.non k (cY l g.aw.size) (g.non k l c),λk o e cs hT=>(g.ty k o e cs hT).elim λd p=>h.ty k o e d p⟩
theorem Gx.size{S:Nat->Prop}{w w':World}{T a:dN}(g:Gx S w T w' a):w.heap.size<=w'.heap.size:=g.aw.size
theorem Gx.loc{S:Nat->Prop}{w w':World}{T a:dN}(g:Gx S w T w' a){b:Nat}{o:Obj}(hb:hp w b=some o)(c:T b=Option.none):hp w' b=some o/\a b=Option.none:=
 ⟨g.aw.at hb λh=>h c,g.non b (az hb) c⟩
structure Lo(w:World)(T:dN)(A:Option Addr)(us:List Value):Prop where
 rd:ed w A us
 off:∀p,A=some p->us≠ []->T p.block=none
theorem Lo.nil(w:World)(T:dN)(A:Option Addr):Lo w T A []:=⟨ed.nil w A,λ_ _ h=>absurd rfl h⟩
theorem rd_blt{w:World}{A:Option Addr}{us:List Value}(h:ed w A us){p:Addr}(hp:A=some p)(a:us≠ []):p.block<w.heap.size:=by
 cases us with
 |nil=>exact absurd rfl a
 |cons u us=>
  obtain⟨q,b,c⟩:=h 0 u rfl;rw[hp]at b;cases b;have:=qt c
  rwa[rE]at this
theorem rd_off{w w':World}{F:Nat->Prop}{A:Option Addr}{us:List Value}(h:ed w A us)(f:aW F w w')(g:∀p,A=some p->us≠ []->¬F p.block):ed w' A us:=λj u d=>by
 obtain⟨p,hp,a⟩:=h j u d;have b:us≠ []:=λe=>by rw[e]at d;simp at d
 refine⟨p,hp,?_⟩;have hb:w'.heap[p.block]? =w.heap[p.block]? :=f.block p.block (rd_blt h hp b) (g p hp b);have c:=rE p j;unfold World.cell? at a⊢;rw[c,hb]
 rwa[c]at a
theorem Lo.gx{S:Nat->Prop}{w w':World}{T b:dN}{A:Option Addr}{us:List Value}(h:Lo w T A us)(g:Gx S w T w' b):Lo w' b A us:=
 ⟨rd_off h.rd g.aw λp hp a c=>c (h.off p hp a),λp hp a=>g.non p.block (rd_blt h.rd hp a) (h.off p hp a)⟩
theorem Lo.aw{w w':World}{T:dN}{A:Option Addr}{us:List Value}(h:Lo w T A us)(a:ad [] w w'):Lo w' T A us:=⟨h.rd.an a.below,h.off⟩
theorem Lo.new{w w':World}{T:dN}{A:Option Addr}{us:List Value}(R:Rel w T)(h:ed w' A us)(a:∀p,A=some p->w.heap.size<=p.block):Lo w' T A us:=⟨h,λp hp _=>R.fresh (a p hp)⟩
def iz(T:dN)(b:Nat)(a:Nod):dN:=λk=>if k=b then some a else T k
theorem ax{T:dN}{b:Nat}{a:Nod}:iz T b a b=some a:=bX rfl
theorem aD{T:dN}{b k:Nat}{a:Nod}(h:k≠b):iz T b a k=T k:=bY h
theorem lP{T:dN}{b p x j o:Nat}{e:TypeId}{cs:List fQ}(h:T b=some (.st o e cs))(hp:T p=some (.own x j)):p≠b:=λa=>by subst a;rw[h]at hp;cases hp
theorem aA{T:dN}{b c o o':Nat}{e e':TypeId}{cs cs':List fQ}(h:T b=some (.st o e cs))(d:T c=some (.st o' e' cs'))(a:e≠e'):b≠c:=λq=>by subst q;rw[h]at d;cases d;exact a rfl
theorem um{T:dN}{b c o o':Nat}{e e':TypeId}{cs cs':List fQ}(h:T b=some (.st o e cs))(d:T c=some (.st o' e' cs'))(a:o≠o'):b≠c:=λq=>by subst q;rw[h]at d;cases d;exact a rfl
section
variable{w:World}{T:dN}{b o:Nat}{e:TypeId}{cs cs':List fQ}{vs vs':List Value}
theorem fU.put(hT:T b=some (.st o e cs)){x k:Nat}{c:fQ}{v:Value}{f:Nod}(a:Array Value)(h:fU w T x k c v)(d:∀p,T p=some (.own x k)->p≠b):fU (Ev.put w b a e) (iz T b f) x k c v:=by
 cases c with
 |v u=>exact h
 |gr e' z n us=>exact⟨(aW.put w b a e).row h.1 λp hp=>d p (h.2 p hp),λp hp=>by rw[aD (d p (h.2 p hp))];exact h.2 p hp⟩
theorem Gx.put(R:Rel w T)(hT:T b=some (.st o e cs))(r:vs'.length=cs'.length)(s:∀(k:Nat) (c:fQ) (v:Value),cs'[k]? =some c->vs'[k]? =some v->fU w T b k c v):
  Gx (λk=>k=b) w T (Ev.put w b vs'.toArray e) (iz T b (.st o e cs')):=by
 have g:=R.lt b _ hT;have a:∀x k p,T p=some (.own x k)->p≠b:=λx k p hp=>lP hT hp;refine⟨⟨λx o' e' t f=>?_,λx u f=>?_⟩,(aW.put w b _ e).mono λk i=>by rw[i,hT];simp,λk u d l=>by rw[aD l];exact d,λk x j h=>by rw[aD (a x j k h)];exact h,λk i m=>by
  rw[aD λh=>by subst h;rw[hT]at m;cases m];exact m,λk y z n d=>by
  by_cases i:k=b
  ·subst i;rw[hT]at d;cases d;exact⟨_,ax⟩
  ·exact⟨n,by rw[aD i];exact d⟩⟩
 ·by_cases h:x=b
  ·subst h;rw[ax]at f;cases f;exact⟨vs',aq g _ _,r,λk c v d l=>(s k c v d l).put hT _ (a _ _)⟩
  ·rw[aD h]at f;obtain⟨us,q⟩:=R.node x _ _ _ f;exact⟨us,by rw[aV h];exact q.hb,q.len,λk c v d l=>(q.each k c v d l).put hT _ (a _ _)⟩
 ·rw[nR];by_cases h:x=b
  ·subst h;exact g
  ·rw[aD h]at f;exact R.lt x _ f
theorem cells_v(k:Nat)(c:fQ)(v:Value)(h:(vs.map fQ.v)[k]? =some c)(a:vs[k]? =some v):fU w T b k c v:=by
 rw[cM,a]at h;cases h;rfl
theorem Rel.kW(R:Rel w T)(hT:T b=some (.st o e (vs.map fQ.v))):hp w b=some (.cells vs.toArray e):=by
 obtain⟨us,h⟩:=R.node b _ _ _ hT;have:us=vs:=by
  apply List.ext_getElem?;intro k;rcases cZ k vs.length with hk|hk
  ·have a:=h.len;rw[List.length_map]at a;rw[bZ dy,bZ hk];have:=h.each k (.v vs[k]) us[k] (by rw[cM,bZ hk];rfl) (bZ dy);exact congrArg some this
  ·have a:=h.len;rw[List.length_map]at a;rw[df dy,df dy]
 rw[<- this];exact h.hb
theorem Gx.putv(R:Rel w T)(hT:T b=some (.st o e cs))(vs':List Value):Gx (λk=>k=b) w T (Ev.put w b vs'.toArray e) (iz T b (.st o e (vs'.map fQ.v))):=
 Gx.put R hT (by simp) λk c v h a=>cells_v k c v h a
theorem Gx.new{S:Nat->Prop}(R:Rel w T)(o:Nat)(e:TypeId)(r:vs.length=cs.length)(s:∀(k:Nat) (c:fQ) (v:Value),cs[k]? =some c->vs[k]? =some v->fU w T w.heap.size k c v):
  Gx S w T (w.alloc (.cells vs.toArray e)) (iz T w.heap.size (.st o e cs)):=by
 have i:ad [] w (w.alloc (.cells vs.toArray e)):=(ad.refl _ _).alloc _;have y:T w.heap.size=Option.none:=R.fresh (cy _);have g:∀k f,T k=some f->k≠w.heap.size:=λk f h=>by have:=R.lt k f h;omega
 have q:∀{x k c v},fU w T x k c v->fU (w.alloc (.cells vs.toArray e)) (iz T w.heap.size (.st o e cs)) x k c v:=fun{x k c v} h=>by
  have a:=h.frame (aW.bV i _);cases c with
  |v u=>exact a
  |gr e' z n us=>exact⟨a.1,λp hp=>by rw[aD (g p _ (a.2 p hp))];exact a.2 p hp⟩
 refine⟨⟨λx o' e' t d=>?_,λx f d=>?_⟩,aW.bV i _,λk f b a=>by rw[aD (g k f b)];exact b,λk x j h=>by rw[aD (g k _ h)];exact h,λk A h=>by rw[aD dy];exact h,λk B C l b=>⟨l,by rw[aD (g k _ b)];exact b⟩⟩
 ·by_cases h:x=w.heap.size
  ·subst h;rw[ax]at d;cases d;exact⟨vs,by rw[af,bX rfl],r,λk c v b a=>q (s k c v b a)⟩
  ·rw[aD h]at d;obtain⟨us,m⟩:=R.node x _ _ _ d;exact⟨us,i.at m.hb (by simp),m.len,λk c v b a=>q (m.each k c v b a)⟩
 ·rw[ah];by_cases h:x=w.heap.size
  ·omega
  ·rw[aD h]at d;have:=R.lt x _ d;omega
end
section
variable{w w1:World}{T:dN}{b o:Nat}{e:TypeId}{cs cs':List fQ}{vs vs':List Value}
theorem Gx.p8{S:Nat->Prop}(R:Rel w T)(o:Nat)(e:TypeId)(vs:List Value):Gx S w T (w.alloc (.cells vs.toArray e)) (iz T w.heap.size (.st o e (vs.map fQ.v))):=
 Gx.new R o e (by simp) λk c v h a=>cells_v k c v h a
theorem uo{k:Nat}{e':TypeId}{z:Nat}:fU w T b k (.gr e' z 0 []) (.slice none 0 0):=⟨World.ownsRow_nil _ _ _ _,λp hp=>by cases hp⟩
theorem Gx.grow(R:Rel w T)(hT:T b=some (.st o e cs))(N:m7 w T b e cs vs){k:Nat}{v v':Value}{e':TypeId}{z n Z:Nat}{us H:List Value}(O:cs[k]? =some (.gr e' z n us))(hv:vs[k]? =some v)
  (l:aW (λq=>v.ownBlock=some q) w w1) (nb:iB w v v') (ho:w1.ownsRow 0 e' z v' Z H)
  (hl:vs'.length=cs'.length) (P:cs'[k]? =some (.gr e' z Z H)) (Q:vs'[k]? =some v') (he:∀(j:Nat) (c:fQ) (u:Value),j≠k->cs'[j]? =some c->vs'[j]? =some u->fU w T b j c u):
  hp w1 b=hp w b/\∃T',T' b=some (.st o e cs')/\Gx (λq=>q=b) w T (Ev.put w1 b vs'.toArray e) T':=by
 have I:=N.each k _ v O hv;have g:∀q,v.ownBlock=some q->T q=some (.own b k):=I.2;have S:hp w1 b=hp w b:=l.block b (R.lt b _ hT) λh=>lP hT (g b h) rfl;let m:dN:=λq=>if v'.ownBlock=some q then some (.own b k)else T q
 have A:∀q,¬v'.ownBlock=some q->m q=T q:=λq h=>bY h;have C:∀q,v'.ownBlock=some q->m q=some (.own b k):=λq h=>bX h;have r:∀q D,T q=some D->m q=some D:=λq D h=>by
  by_cases d:v'.ownBlock=some q
  ·rw[C q d];rcases nb q d with h1|h1
   ·rw[g q h1]at h;exact h
   ·have:=R.lt q D h;omega
  ·rw[A q d];exact h
 have J:∀{x j c u},fU w T x j c u->(x,j)≠(b,k)->fU w1 m x j c u:=fun{x j c u} h E=>by
  cases c with
  |v u'=>exact h
  |gr G z2 n2 a7=>
   refine⟨l.row h.1 λq d B=>?_,λq d=>r q _ (h.2 q d)⟩;have a:=h.2 q d;rw[g q B]at a;cases a;exact E rfl
 have K:∀q,v'.ownBlock=some q->q<w1.heap.size:=λq d=>(ho.lt q d).2;have U:∀x o' G t,T x=some (.st o' G t)->x≠b->∃us,m7 w1 m x G t us:=λx o' G t f E=>by
  obtain⟨us,F⟩:=R.node x _ _ _ f;exact⟨us,l.at F.hb (λh=>lP f (g x h) rfl),F.len,λj c u h1 y=>J (F.each j c u h1 y) (λh=>E (congrArg Prod.fst h))⟩
 have L:m b=some (.st o e cs):=r b _ hT;have M:∀x j c u,(x≠b->fU w1 m x j c u)->(x=b->fU w1 m x j c u)->fU (Ev.put w1 b vs'.toArray e) (iz m b (.st o e cs')) x j c u:=λx j c u h V=>by
  have y:fU w1 m x j c u:=by
   by_cases f:x=b
   ·exact V f
   ·exact h f
  exact y.put L _ λp hp=>lP L hp
 refine⟨S,iz m b (.st o e cs'),ax,⟨⟨λx o' G t f=>?_,λx D f=>?_⟩,?_,λq D h1 y=>by rw[aD y];exact r q D h1,λq x j h=>by rw[aD (lP hT h)];exact r q _ h,λq d i=>?_,λq o1 e1 W h1=>by
  by_cases O:q=b
  ·subst O;rw[hT]at h1;cases h1;exact⟨_,ax⟩
  ·exact⟨W,by rw[aD O];exact r q _ h1⟩⟩⟩
 ·by_cases h:x=b
  ·subst h;rw[ax]at f;cases f;refine⟨vs',aq (by have:=R.lt x _ hT;have:=l.size;omega) _ _,hl,λj c u h1 y=>M x j c u (λh=>absurd rfl h) λ_=>?_⟩;by_cases X:j=k
   ·subst X;rw[P]at h1;rw[Q]at y;cases h1;cases y;exact⟨ho,C⟩
   ·exact J (he j c u X h1 y) (λh=>X (congrArg Prod.snd h))
  ·rw[aD h]at f;have Y:T x=some (.st o' G t):=by
    by_cases d:v'.ownBlock=some x
    ·rw[C x d]at f;cases f
    ·rw[<- A x d];exact f
   obtain⟨us,F⟩:=U x _ _ _ Y h;exact⟨us,by rw[aV h];exact F.hb,F.len,λj c u h1 y=>M x j c u (λ_=>F.each j c u h1 y) λV=>absurd V h⟩
 ·rw[nR];have s:=l.size;by_cases h:x=b
  ·subst h;have:=R.lt x _ hT;omega
  ·rw[aD h]at f;by_cases d:v'.ownBlock=some x
   ·exact K x d
   ·rw[A x d]at f;have:=R.lt x _ f;omega
 ·have p:=aW.put w1 b vs'.toArray e;refine⟨p.os.trans l.os,p.tape.trans l.tape,p.output.trans l.output,cQ l.size p.size,λq d i=>?_⟩;have i:T q=Option.none:=Classical.not_not.1 i;rw[p.block q (cY d l.size) (λh=>by rw[h,hT]at i;cases i)];exact l.block q d λh=>by rw[g q h]at i;cases i
 ·have h1:q≠b:=λh=>by rw[h,hT]at i;cases i
  rw[aD h1];by_cases B:v'.ownBlock=some q
  ·rcases nb q B with h|h
   ·rw[g q h]at i;cases i
   ·omega
  ·rw[A q B];exact i
theorem Gx.rowset(R:Rel w T)(hT:T b=some (.st o e cs))(N:m7 w T b e cs vs){k:Nat}{v:Value}{e':TypeId}{z n:Nat}{us xs:List Value}(y:cs[k]? =some (.gr e' z n us))(hv:vs[k]? =some v){p i:Nat}(hp:v.ownBlock=some p)(K:i+xs.length<=n*z):
  mX (Ev.hp w p) (i+xs.length)=true/\p≠b/\Gx (λq=>q=b) w T (Ev.put w p (nz (dG (Ev.hp w p)) i xs) (dH (Ev.hp w p))) (iz T b (.st o e (cs.set k (.gr e' z n (us.take i++xs++us.drop (i+xs.length)))))):=by
 have d:=N.each k _ v y hv;have m:=d.2 p hp;obtain⟨A,L⟩:=rN (vs:=xs) d.1 hp K;have B:p≠b:=lP hT m;have f:=aW.put w p (nz (dG (Ev.hp w p)) i xs) (dH (Ev.hp w p));generalize Ev.put w p (nz (dG (Ev.hp w p)) i xs) (dH (Ev.hp w p))=w' at*;have J:∀{x j c u},fU w T x j c u->(x,j)≠(b,k)->∀D,fU w' (iz T b D) x j c u:=fun{x j c u} h E D=>by
  cases c with
  |v S=>exact h
  |gr M U V C=>
   refine⟨f.row h.1 λq g F=>?_,λq g=>by rw[aD (lP hT (h.2 q g))];exact h.2 q g⟩;have a:=h.2 q g;rw[F,m]at a;cases a;exact E rfl
 refine⟨L,B,⟨⟨λx o' M O r=>?_,λx D r=>?_⟩,f.mono λq g=>by rw[g,m];simp,λq D l t=>by rw[aD t];exact l,λq x j h=>by rw[aD (lP hT h)];exact h,λq g G=>by
  rw[aD λh=>by rw[h,hT]at G;cases G];exact G,λq W X H A=>by
  by_cases y:q=b
  ·subst y;rw[hT]at A;cases A;exact⟨_,ax⟩
  ·exact⟨H,by rw[aD y];exact A⟩⟩⟩
 ·by_cases h:x=b
  ·subst h;rw[ax]at r;cases r;refine⟨vs,f.at N.hb (λh=>B h.symm),by rw[cE];exact N.len,λj c u l t=>?_⟩;by_cases I:j=k
   ·subst I;rw[cU,bX rfl,bX (ce.1 y).1]at l;rw[hv]at t;cases l;cases t;exact⟨A,λq g=>by rw[aD (lP hT (d.2 q g))];exact d.2 q g⟩
   ·rw[cU,bY (λh=>I h.symm)]at l;exact J (N.each j c u l t) (λh=>I (congrArg Prod.snd h)) _
  ·rw[aD h]at r;obtain⟨C,l⟩:=R.node x _ _ _ r;exact⟨C,f.at l.hb (λh=>by rw[h,m]at r;cases r),l.len,λj c u t P=>J (l.each j c u t P) (λQ=>h (congrArg Prod.fst Q)) _⟩
 ·have s:=f.size;by_cases h:x=b
  ·subst h;have:=R.lt x _ hT;omega
  ·rw[aD h]at r;have:=R.lt x _ r;omega
end
theorem own_newE{w1:World}{e:TypeId}{z n:Nat}{v:Value}{cs:List Value}{base:Nat}(h:w1.ownsRow base e z v n cs):∀k,v.ownBlock=some k->base<=k:=λk a=>by
 obtain⟨A,c,rfl,_,b,_⟩:=aG h;cases A with
 |none=>simp[Value.ownBlock]at a
 |some p=>simp[Value.ownBlock]at a;rw[<- a];exact(b p rfl).1
theorem qR{P:Program}{w:World}{K:Value->World->Prop}{t e:TypeId}{i:TypeInfo}{z:Value}{size:Nat}{A:Option Addr}{n c:Nat}{us:List Value}(g:P.underlying t=some (.slice e))(l:P.info? e=some i)(o:i.zero=some z)(p:i.size=size)(a:z.cells.size=size)(q:0<size)
  (r:us.length=n*size) (s:ed w A us) (y:∀u∈us,∃k x,u= .int k x) (B:n<=1000000) (hb:i.bytes<=1000)
  (d:∀v w',aL e size n (us.map hN) w' (λb=>v.ownBlock=some b) v->(∀ k,v.ownBlock=some k->w.heap.size<=k)->ad [] w w'->K v w'):
  dF P (Builtin.append_ #[t,t] t #[.slice none 0 0,.slice A n c]) w K:=by
 have C:n*i.bytes<=1000000*1000:=Nat.mul_le_mul B hb;refine iI (base:=w.heap.size) (xs:= []) (n:=0) (news:=us) (m:=n) g l o p a q (World.ownsRow_nil _ _ _ _) r (λj u D=>s j u D) (λu E=>?_) (by unfold maxLen;omega) (by rw[cV];omega) (cy _) λx1 w1 f F=>?_
 ·obtain⟨k,x,rfl⟩:=y u E;rfl
 ·have G:ad [] w w1:=(ad.refl _ _).grown F λk d=>by simp[Value.ownBlock]at d
  rw[List.nil_append,cV]at f;exact d x1 w1 (gW f) (own_newE f) G
theorem gC{w:World}{e:TypeId}{z n:Nat}{us:List Value}{v:Value}(h:∃F,aL e z n (us.map hN) w F v):∃A c,v= .slice A n c/\ed w A us:=by
 obtain⟨F,h⟩:=h;obtain⟨a,_⟩:=fD h;obtain⟨A,c,e,r,_⟩:=aG a;exact⟨A,c,e,r⟩
end Go.Proofs.YtnpflajdbchghaaGreat.Ev
