/- Parts of the proof of OrderChecks, one behind the other. Conditions: none. -/
import Derived.Test.YtnpflajdbchghaaGreatZOrderChecks10
set_option linter.unusedSimpArgs false
set_option linter.unusedVariables false
set_option maxHeartbeats 4000000
set_option maxRecDepth 10000
noncomputable section
namespace Go.Proofs.YtnpflajdbchghaaGreat
open Tryz(prog)
open Go Ev Go.RowKit
def nR(s a:di):Bool:=decide (a.wk=s.op.2.1)&&(decide (a.ix=s.op.2.2.1)&&(decide (a.op.1=1\/a.op.1=2)&&(decide (a.re.1=0)&&ahead a s)))
def hOf(l:List di)(s:di):eN:=(l.find? (nR s)).elim kJ λa=>a.re.2.1
def fm(l:List di)(s:di):eN:=if gu s.op.1=0 then kJ else hOf l s
theorem find_drop{l:List di}{p:di->Bool}{k:Nat}(a:k<l.length)(h:l.find? p=(l.drop k).find? p)(b:p l[k]=false):l.find? p=(l.drop (k+1)).find? p:=by
 rw[h,List.drop_eq_getElem_cons a,List.find?_cons,b]
theorem find_at{l:List di}{p:di->Bool}{k:Nat}(a:k<l.length)(h:l.find? p=(l.drop k).find? p)(b:p l[k]=true):l.find? p=some l[k]:=by
 rw[h,List.drop_eq_getElem_cons a,List.find?_cons,b]
theorem find_end{l:List di}{p:di->Bool}{k:Nat}(a:k=l.length)(h:l.find? p=(l.drop k).find? p):l.find? p=none:=by
 rw[h,a,List.drop_length];rfl
theorem sp_c{w:World}{b:Nat}{a:di}{e:TypeId}(h:hp w b=some (.cells (iW a) e))(k:Nat):an (hp w b) k=(iW a)[k]? :=by rw[h,aN]
theorem sp_hn{w:World}{b:Nat}{a:di}{e:TypeId}(h:hp w b=some (.cells (iW a) e)):gi prog 32 (.pointer (some ⟨b,0+12+1,none⟩)) w=some (.agg (ba a.re.2.1).toArray):=by
 rw[ld_32,h];rfl
section
variable{l:List di}{A:Option Addr}{c:Nat}{W:World}
theorem l_oHandle(hl:l.length<=1000000){i m E:Nat}(hi:i<l.length)(h4:W.heap.size<=m):∀(d k:Nat) (w:World),fp w A (l.flatMap jS)->hp w m=some (.cells (ba kJ).toArray 32)->hp w E=some (.cells (cI l[i].op).toArray 37)->ad [] W w->
  k+d=l.length->l.find? (nR l[i])=(l.drop k).find? (nR l[i])->
  P36_0 (.slice A l.length c) (bN i) (bS m) (bS E) (.slice A l.length c) (bN l.length) (bN k) w λv w'=>v= .agg (ba (hOf l l[i])).toArray/\ad [] W w':=by
 intro d;induction d with
 |zero=>
  intro k w y p z R hk O;apply L36_0_ok;have S:hOf l l[i]=kJ:=by rw[hOf,find_end dB O];rfl
  have:¬((k:Int)<l.length):=dB;simp only[L36_0,zS,this,bdh_,tk p rfl];have q:hp (put w m (ba kJ).toArray 32) m=some (.cells (ba kJ).toArray 32):=by rw[bm,bU rfl,bU (aD p)]
  simp only[iU q,ac];exact⟨by rw[S],R.put (.inr h4) _ _⟩
 |succ d ih=>
  intro k w y p z R hk O;apply L36_0_ok;have T:(k:Int)<l.length:=dB;have t:k<l.length:=dB;obtain⟨b,o,q1,q2⟩:=iQ (c:=c) (j:= .i64) (i:=k) y t;obtain⟨b',o',r1,U⟩:=iQ (c:=c) (j:= .i64) (i:=i) y hi;simp only[L36_0,zS,T,q1,q2.ld,qK];rw[st_39 (by rfl) (by rfl) (by rw[af,bU rfl];rfl) (by rw[af,bU rfl];rfl),af,bU rfl];simp only[au];generalize u:put (w.alloc _) w.heap.size (iW l[k]) 39=w1;have e:ad [] w w1:=by rw[<- u];exact((ad.refl _ _).alloc _).put (.inr (cy _)) _ _
  have B:hp w1 w.heap.size=some (.cells (iW l[k]) 39):=by rw[<- u,bm,bU rfl,bU (by simp)]
  clear u;generalize w.heap.size=g at*;have p:=e.at p (by simp);have z:=e.at z (by simp);have U:=U.ao e;have y:=y.ao e.below;have F:=R.trans e;generalize hs:l[i]=s at*;generalize V:l[k]=a at*;have f0:an (hp w1 g) (0+0)=some (bN a.wk):=sp_c B 0;have f1:an (hp w1 g) (0+1)=some (bN a.ix):=sp_c B 1;have X:an (hp w1 g) (0+2+0)=some (bN a.op.1):=sp_c B 2;have G:an (hp w1 g) (0+12+0)=some (bN a.re.1):=sp_c B 12;have H:an (hp w1 E) (0+1)=some (bN s.op.2.1):=by rw[z,aN];rfl
  have P:an (hp w1 E) (0+2)=some (bN s.op.2.2.1):=by rw[z,aN];rfl
  have next:nR s a=false->∀w2,ad [] w1 w2->P36_0 (.slice A l.length c) (bN i) (bS m) (bS E) (.slice A l.length c) (bN l.length) (bN ((k:Int)+1)) w2 λv w'=>v= .agg (ba (hOf l s)).toArray/\ad [] W w':=λhn w2 f=>
   ih (k+1) w2 (y.ao f.below) (f.at p (by simp)) (f.at z (by simp)) (F.trans f) dB (find_drop t O (by rw[V];exact hn))
  have I:=ap (n:=(k:Int)+1) dB dB;have C:ad [] w1 w1.drew:=(ad.refl _ _).drew;by_cases x:a.wk=s.op.2.1
  case neg=>
   simp only[zS,jq,jY,iA,iB,ag,f0,H,aW x,aj,I];exact next (by simp[nR,x]) _ C
  by_cases D:a.ix=s.op.2.2.1
  case neg=>
   simp only[zS,jq,jY,iA,iB,ag,f0,f1,H,P,x,aW D,aj,I];exact next (by simp[nR,D]) _ C
  have k1:∀r:Bool,(decide (a.op.1=1\/a.op.1=2)=r)->(r=false->nR s a=false):=λr h hr=>by simp only[nR,h,hr,Bool.false_and,Bool.and_false]
  have step:∀r:Bool,(a.op.1==1)=r->(r=true\/(a.op.1==2)=true\/((a.op.1==2)=false/\r=false))->True:=λ_ _ _=>trivial;by_cases e3:a.op.1=1\/a.op.1=2
  case neg=>
   have J:¬a.op.1=1:=λh=>e3 (.inl h);have K:¬a.op.1=2:=λh=>e3 (.inr h);simp only[zS,jq,jY,jr,am,iA,iB,ag,f0,f1,X,H,P,x,D,aW J,aW K,aj,I];exact next (by simp[nR,J,K]) _ C
  by_cases Q:a.re.1=0
  case neg=>
   rcases e3 with e3|e3
   all_goals
    simp only[zS,jq,jY,jr,hH,am,iA,iB,kR,ag,jd,f0,f1,X,G,H,P,x,D,e3,aW Q,aj,I,show((2:Int)==1)=false from rfl];exact next (by simp[nR,Q]) _ C
  have Y:At w1.drew g 0 a:=rQ B;have Z:=U.ao C;rcases e3 with e3|e3
  all_goals
   simp only[zS,jq,jY,jr,hH,am,iA,iB,kR,ag,jd,f0,f1,X,G,H,P,x,D,e3,Q,show((2:Int)==1)=false from rfl,Y.ld,r1,Z.ld];refine(c_Ahead a s w1.drew).mono ?_;rintro _ w2 ⟨rfl,f⟩;have f:=C.trans f;cases L:ahead a s with
   |false=>
    simp only[zS,aj,I];exact next (by simp[nR,L]) w2 f
   |true=>
    have a1:nR s a=true:=by simp[nR,x,D,e3,Q,L]
    have a2:=f.at B (by simp);have M:=f.at p (by simp);have q:hp (put w2 m (ba a.re.2.1).toArray 32) m=some (.cells (ba a.re.2.1).toArray 32):=by rw[bm,bU rfl,bU (aD M)]
    simp only[zS,iS,sp_hn a2,tk M rfl,iU q];have S:hOf l s=a.re.2.1:=by rw[hOf,find_at t O (by rw[V];exact a1),V];rfl
    exact⟨by rw[S],(F.trans f).put (.inr h4) _ _⟩
theorem l_refHandle(hl:l.length<=1000000){i q:Nat}(hi:i<l.length)(Z:W.heap.size<=q):∀(d k:Nat) (w:World),fp w A (l.flatMap jS)->hp w q=some (.cells (ba kJ).toArray 32)->ad [] W w->
  k+d=l.length->l.find? (nR l[i])=(l.drop k).find? (nR l[i])->
  P52_0 (.slice A l.length c) (bN i) (bS q) (bN k) w λv w'=>v= .agg (ba (hOf l l[i])).toArray/\ad [] W w':=by
 intro d;induction d with
 |zero=>
  intro k w z r P hk K;apply L52_0_ok;have Q:hOf l l[i]=kJ:=by rw[hOf,find_end dB K];rfl
  have:¬((k:Int)<l.length):=dB;simp only[L52_0,iP,zS,this,bdh_,tk r rfl];have t:hp (put w q (ba kJ).toArray 32) q=some (.cells (ba kJ).toArray 32):=by rw[bm,bU rfl,bU (aD r)]
  simp only[iU t,ac];exact⟨by rw[Q],P.put (.inr Z) _ _⟩
 |succ d ih=>
  intro k w z r P hk K;apply L52_0_ok;have R:(k:Int)<l.length:=dB;have u:k<l.length:=dB;obtain⟨b,o,q1,q2⟩:=iQ (c:=c) (j:= .i64) (i:=k) z u;obtain⟨b',o',S,B⟩:=iQ (c:=c) (j:= .i64) (i:=i) z hi;simp only[L52_0,iP,zS,R,q1,q2.ld,qK];rw[st_39 (by rfl) (by rfl) (by rw[af,bU rfl];rfl) (by rw[af,bU rfl];rfl),af,bU rfl];simp only[au];generalize x:put (w.alloc _) w.heap.size (iW l[k]) 39=w1;have p:ad [] w w1:=by rw[<- x];exact((ad.refl _ _).alloc _).put (.inr (cy _)) _ _
  have L:hp w1 w.heap.size=some (.cells (iW l[k]) 39):=by rw[<- x,bm,bU rfl,bU (by simp)]
  clear x;generalize w.heap.size=g at*;have r:=p.at r (by simp);have B:=B.ao p;have z:=z.ao p.below;have C:=P.trans p;generalize hs:l[i]=s at*;generalize T:l[k]=a at*;have f0:an (hp w1 g) (0+0)=some (bN a.wk):=sp_c L 0;have f1:an (hp w1 g) (0+1)=some (bN a.ix):=sp_c L 1;have f2:∀w',hp w' g=some (.cells (iW a) 39)->an (hp w' g) (0+2+0)=some (bN a.op.1):=λw' h=>sp_c h 2;have y:∀w',hp w' g=some (.cells (iW a) 39)->an (hp w' g) (0+12+0)=some (bN a.re.1):=λw' h=>sp_c h 12;have U:an (hp w1 b') (o'+2+1)=some (bN s.op.2.1):=B.f 3 dB;have o2:an (hp w1 b') (o'+2+2)=some (bN s.op.2.2.1):=B.f 4 dB;have next:nR s a=false->∀w2,ad [] w1 w2->P52_0 (.slice A l.length c) (bN i) (bS q) (bN ((k:Int)+1)) w2 λv w'=>v= .agg (ba (hOf l s)).toArray/\ad [] W w':=λhn w2 m=>
   ih (k+1) w2 (z.ao m.below) (m.at r (by simp)) (C.trans m) dB (find_drop u K (by rw[T];exact hn))
  have D:=ap (n:=(k:Int)+1) dB dB;have M:ad [] w1 w1.drew:=(ad.refl _ _).drew;by_cases E:a.wk=s.op.2.1
  case neg=>
   simp only[zS,jq,jY,jr,iA,ag,f0,U,S,aW E,aj,D];exact next (by simp[nR,E]) _ M
  by_cases O:a.ix=s.op.2.2.1
  case neg=>
   simp only[zS,jq,jY,jr,iA,iB,ag,f0,f1,U,o2,S,E,aW O,aj,D];exact next (by simp[nR,O]) _ M
  have V:At w1.drew g 0 a:=rQ L;have X:=B.ao M;simp only[zS,jq,jY,jr,iA,iB,ag,f0,f1,U,o2,S,E,O,V.ld,X.ld];refine(c_AheadRef a s w1.drew).mono ?_;rintro _ w2 ⟨rfl,m⟩;have m:=M.trans m;have e:=m.at L (by simp);have F:=m.at r (by simp);cases G:ahead a s with
  |false=>
   simp only[zS,aj,D];exact next (by simp[nR,G]) w2 m
  |true=>
  by_cases H:a.re.1=0
  case neg=>
   simp only[zS,hH,kR,jd,y w2 e,aW H,aj,D];exact next (by simp[nR,H]) w2 m
  by_cases e3:a.op.1=1\/a.op.1=2
  case neg=>
   have I:¬a.op.1=1:=λh=>e3 (.inl h);have J:¬a.op.1=2:=λh=>e3 (.inr h);simp only[zS,hH,am,kR,ag,jd,y w2 e,f2 w2 e,H,aW I,aW J,aj,D];exact next (by simp[nR,I,J]) w2 m
  have Y:nR s a=true:=by simp[nR,E,O,e3,H,G]
  have t:hp (put w2 q (ba a.re.2.1).toArray 32) q=some (.cells (ba a.re.2.1).toArray 32):=by rw[bm,bU rfl,bU (aD F)]
  have Q:hOf l s=a.re.2.1:=by rw[hOf,find_at u K (by rw[T];exact Y),T];rfl
  rcases e3 with e3|e3
  all_goals
   simp only[zS,hH,am,kR,iS,ag,jd,y w2 e,f2 w2 e,e3,H,show((2:Int)==1)=false from rfl,sp_hn e,tk F rfl,iU t];exact⟨by rw[Q],(C.trans m).put (.inr Z) _ _⟩
theorem At.op{w:World}{b o:Nat}{s:di}(h:At w b o s):ldL (hp w b) (o+2) 6=some (cI s.op):=mw 6 (o+2) (cI s.op) rfl λj u a=>by
 have c:j<6:=(bY.1 a).1;have:=h.f (2+j) dB;rw[Nat.add_assoc,this];match j,c,a with
 |0,_,a=>exact a
 |1,_,a=>exact a
 |2,_,a=>exact a
 |3,_,a=>exact a
 |4,_,a=>exact a
 |5,_,a=>exact a
theorem At.ldop{w:World}{b o:Nat}{s:di}(h:At w b o s):gi prog 37 (.pointer (some ⟨b,o+2,none⟩)) w=some (.agg (cI s.op).toArray):=by rw[ld_37,h.op];rfl
theorem z_hn:(#[bN 0,bN 0,bN 0,bN 0,bN 0]:Array Value)=(ba kJ).toArray:=rfl
theorem c_oHandle0(t:l.length<=1000000){w:World}(u:fp w A (l.flatMap jS)){i:Nat}(p:i<l.length):aa prog 36 [.slice A l.length c,bN i] w λv w'=>v= .agg (ba (fm l l[i])).toArray/\ad [] w w':=by
 apply F36_ok;simp only[F36,oB,z_hn];generalize a:w.alloc _=w1;have m:ad [] w w1:=by rw[<- a];exact(ad.refl _ _).alloc _
 have x:hp w1 w.heap.size=some (.cells (ba kJ).toArray 32):=by rw[<- a,af,bU rfl]
 have D:w1.heap.size=w.heap.size+1:=by rw[<- a,ah]
 clear a;have g:=u.ao m.below;obtain⟨b,o,y,z⟩:=iQ (c:=c) (j:= .i64) (i:=i) g p;simp only[zS,y,jr,z.ldop,al_37];rw[st_37 (by rfl) (by rfl) (by rw[af,bU rfl];rfl) (by rw[af,bU rfl];rfl),af,bU rfl];simp only[au];generalize e:put (w1.alloc _) w1.heap.size (cI l[i].op).toArray 37=w2;have B:ad [] w1 w2:=by rw[<- e];exact((ad.refl _ _).alloc _).put (.inr (cy _)) _ _
 have q:hp w2 w1.heap.size=some (.cells (cI l[i].op).toArray 37):=by rw[<- e,bm,bU rfl,bU (by simp)]
 clear e;have C:an (hp w2 w1.heap.size) (0+0)=some (bN l[i].op.1):=by rw[q,aN];rfl
 simp only[zS,am,ag,C];refine(c_opOf l[i].op.1 w2).mono ?_;rintro _ r ⟨rfl,s⟩;have d:=B.trans s;have f:=d.at x (by simp);by_cases k:gu l[i].op.1=0
 ·have n:hp (put r w.heap.size (ba kJ).toArray 32) w.heap.size=some (.cells (ba kJ).toArray 32):=by rw[bm,bU rfl,bU (aD f)]
  simp only[zS,k,bdh_,tk f rfl,iU n];exact⟨by rw[fm,bU k],(m.trans d).put (.inr (cy _)) _ _⟩
 ·simp only[zS,aW k,iP];rw[fm,bV k];exact l_oHandle t p (cy _) l.length 0 r (g.ao d.below) f (s.at q (by simp)) (m.trans d) dB rfl
def qN(l:List di)(j:Int):eN:=if j<0\/(l.length:Int)<=j then kJ else match l[j.toNat]? with|some s=>fm l s|none=>kJ
noncomputable def rS(l:List di)(j:Int):eN:=if mI l=true then qN l j else kJ
theorem pN{l:List di}{i:Nat}(a:i<l.length):qN l i=fm l l[i]:=by
 rw[qN,bV dB,cj,bX a]
theorem oJ(u:l.length<=1000000){w:World}(x:fp w A (l.flatMap jS))(j:Int):aa prog 52 [.slice A l.length c,bN j] w λv w'=>v= .agg (ba (qN l j)).toArray/\ad [] w w':=by
 apply F52_ok;simp only[F52,oB,z_hn];generalize a:w.alloc _=w1;have n:ad [] w w1:=by rw[<- a];exact(ad.refl _ _).alloc _
 have r:hp w1 w.heap.size=some (.cells (ba kJ).toArray 32):=by rw[<- a,af,bU rfl]
 clear a;have d:=x.ao n.below;have no:∀w2,ad [] w1 w2->qN l j=kJ->ck prog (Instr.storeAt 32 (bS w.heap.size) (.agg (ba kJ).toArray)) w2 λs=>mV (gi prog 32 (bS w.heap.size) s) λy=>y= .agg (ba (qN l j)).toArray/\ad [] w s:=by
  intro w2 t z;have e:=t.at r (by simp);have p:hp (put w2 w.heap.size (ba kJ).toArray 32) w.heap.size=some (.cells (ba kJ).toArray 32):=by rw[bm,bU rfl,bU (aD e)]
  simp only[zS,tk e rfl,iU p];exact⟨by rw[z],(n.trans t).put (.inr (cy _)) _ _⟩
 by_cases g:j<0
 ·simp only[zS,g,bdh_];exact no w1 (ad.refl _ _) (by rw[qN,bU (.inl g)])
 by_cases q:(l.length:Int)<=j
 ·simp only[zS,g,q,iP,bdh_];exact no w1 (ad.refl _ _) (by rw[qN,bU (.inr q)])
 obtain⟨i,rfl⟩:=Int.eq_ofNat_of_zero_le (show 0<=j by omega);have k:i<l.length:=dB;obtain⟨b,o,B,C⟩:=iQ (c:=c) (j:= .i64) (i:=i) d k;have D:an (hp w1 b) (o+2+0)=some (bN l[i].op.1):=C.f 2 dB;simp only[zS,g,q,iP,B,jr,am,ag,D];refine(c_Of l[i].op.1 w1).mono ?_;rintro _ w2 ⟨rfl,E⟩;subst E;by_cases m:gu l[i].op.1=0
 ·simp only[zS,m,bdh_];exact no _ (ad.refl _ _) (by rw[pN k,fm,bU m])
 ·simp only[zS,aW m];rw[pN k,fm,bV m];exact l_refHandle u k (cy _) l.length 0 _ d r n dB rfl
theorem c_oHandle(n:l.length<=1000000){w:World}(r:fp w A (l.flatMap jS))(j:Int):aa prog 16 [.slice A l.length c,bN j] w λv w'=>v= .agg (ba (rS l j)).toArray/\ad [] w w':=by
 apply F16_ok;simp only[F16,oB,z_hn];generalize a:w.alloc _=w1;have o:ad [] w w1:=by rw[<- a];exact(ad.refl _ _).alloc _
 have s:hp w1 w.heap.size=some (.cells (ba kJ).toArray 32):=by rw[<- a,af,bU rfl]
 clear a;have d:=r.ao o.below;have no:∀(h:eN) w2,ad [] w1 w2->rS l j=h->ck prog (Instr.storeAt 32 (bS w.heap.size) (.agg (ba h).toArray)) w2 λf=>mV (gi prog 32 (bS w.heap.size) f) λt=>t= .agg (ba (rS l j)).toArray/\ad [] w f:=by
  intro h w2 b u;have e:=b.at s (by simp);have k:hp (put w2 w.heap.size (ba h).toArray 32) w.heap.size=some (.cells (ba h).toArray 32):=by rw[bm,bU rfl,bU (aD e)]
  simp only[zS,tk e rfl,iU k];exact⟨by rw[u],(o.trans b).put (.inr (cy _)) _ _⟩
 by_cases g:j<0
 ·simp only[zS,g,bdh_];exact no kJ w1 (ad.refl _ _) (by unfold rS qN;rw[bU (Or.inl g:j<0\/(l.length:Int)<=j),ite_self])
 by_cases m:(l.length:Int)<=j
 ·simp only[zS,g,m,iP,bdh_];exact no kJ w1 (ad.refl _ _) (by unfold rS qN;rw[bU (Or.inr m:j<0\/(l.length:Int)<=j),ite_self])
 obtain⟨i,rfl⟩:=Int.eq_ofNat_of_zero_le (show 0<=j by omega);have p:i<l.length:=dB;simp only[zS,g,m,iP];refine(c_RMay n ⟨A,c,rfl,d⟩).mono ?_;rintro _ w2 ⟨rfl,b⟩;cases q:mI l with
 |false=>
  simp only[zS,bdh_];exact no kJ w2 b (by rw[rS,q];rfl)
 |true=>
  simp only[zS];refine(c_oHandle0 n (d.ao b.below) p).mono ?_;rintro _ f ⟨rfl,x⟩;exact no _ f (b.trans x) (by rw[rS,bU q,pN p])
end
theorem oS{w:World}{base:Nat}{e:TypeId}{z:Nat}{v:Value}{n:Nat}{xs:List Value}(h:w.ownsRow base e z v n xs){k:Nat}(b:v.ownBlock=some k):base<=k:=by
 rcases h.2 with⟨rfl,_⟩|⟨g,cap,c,rfl,a,_⟩
 ·cases b
 ·cases b;exact a
theorem evC_one(e:dP):∀u∈gR e,u.oneCell'=true:=λu a=>by
 simp only[gR,cV,dx,or_false]at a;rcases a with rfl|rfl|rfl<;>rfl
theorem evs_one(L:List dP):∀u∈L.flatMap gR,u.oneCell'=true:=λu a=>by
 obtain⟨s,_,a⟩:=List.mem_flatMap.1 a;exact evC_one s u a
def jT(w:World)(B:Nat)(v:Value)(L:List dP):Prop:=∃A c,v= .slice A L.length c/\fp w A (L.flatMap gR)/\L.length<=c/\∀p,A=some p->B<=p.block
theorem jT.ao{w w':World}{B:Nat}{v:Value}{L:List dP}(h:jT w B v L)(a:ad [] w w'):jT w' B v L:=by
 obtain⟨A,c,b,d,e⟩:=h;exact⟨A,c,b,d.ao a.below,e⟩
theorem jT.mono{w:World}{B a:Nat}{v:Value}{L:List dP}(h:jT w B v L)(hb:a<=B):jT w a v L:=by
 obtain⟨A,c,b,d,e,f⟩:=h;exact⟨A,c,b,d,e,λp hp=>cU hb (f p hp)⟩
theorem jT.nil(w:World)(B:Nat):jT w B (.slice none 0 0) []:=⟨none,0,rfl,fp.nil _ _,cy _,λp hp=>by cases hp⟩
theorem jT.own{w:World}{base:Nat}{e:TypeId}{v:Value}{n:Nat}{L:List dP}(h:w.ownsRow base e 3 v n (L.flatMap gR))(d:n=L.length):jT w base v L:=by
 subst d;rcases h.2 with⟨rfl,f⟩|⟨g,cap,i,rfl,a,o,b,k,l,c⟩
 ·have:L= []:=List.eq_nil_of_length_eq_zero f;subst this;exact jT.nil w base
 ·exact⟨some ⟨g,0,none⟩,cap,rfl,λj u m=>⟨_,rfl,h.cells (g:=g) rfl j u m⟩,b,λp hp=>by cases hp;exact a⟩
structure AtE(w:World)(b o:Nat)(e:dP):Prop where
 l:ldL (hp w b) o 3=some (gR e)
 c0:an (hp w b) (o+0)=some (bN e.1)
 c1:an (hp w b) (o+1)=some (bN e.2.1)
 c2:an (hp w b) (o+2)=some (.bool e.2.2)
theorem ev_at{t e:TypeId}(l:Tryz.prog.underlying t=some (.slice e))(m:(Tryz.prog.info? e).map (·.size)=some 3){w:World}{A:Option Addr}{L:List dP}{c i:Nat}(h:fp w A (L.flatMap gR))(d:i<L.length):
  ∃b o,ai prog (Instr.indexAt t (.slice A L.length c) (bN i))=some (.pointer (some ⟨b,o,none⟩))/\AtE w b o L[i]:=by
 obtain⟨b,o,p,q,f,_⟩:=h.elem (P:=prog) (c:=c) (n:=L.length) (i:=(i:Int)) (j:= .i64) l m dB (by rw[gL iE];exact cy _) dB dB;rw[cj,jX iE L i d]at f;have a:∀k,k<3->an (hp w b) (o+k)=(gR L[i])[k]? :=λk g=>by rw[q k g,cj,flat_get iE L i d k g]
 exact⟨b,o,p,f,a 0 dB,a 1 dB,a 2 dB⟩
theorem flat_take{α:Type}{a:α->List Value}{z:Nat}(h:∀x,(a x).length=z):∀(xs:List α) (i:Nat),(xs.flatMap a).take (i*z)=(xs.take i).flatMap a
 | [],i=>by simp
 |x::xs,0=>by simp
 |x::xs,i+1=>by
  rw[dj,List.take_succ_cons,dj,<-flat_take h xs i,List.take_append,h x,dA (by rw[h x,Nat.succ_mul];omega),Nat.succ_mul,Nat.add_sub_cancel]
theorem flat_drop{α:Type}{a:α->List Value}{z:Nat}(h:∀x,(a x).length=z):∀(xs:List α) (i:Nat),(xs.flatMap a).drop (i*z)=(xs.drop i).flatMap a
 | [],i=>by simp
 |x::xs,0=>by simp
 |x::xs,i+1=>by
  rw[dj,List.drop_succ_cons,<-flat_drop h xs i,List.drop_append,h x,dk (by rw[h x,Nat.succ_mul];omega),Nat.succ_mul,Nat.add_sub_cancel];rfl
theorem putV_split{e:dP}:∀{L:List dP} {k:Nat},k<=L.length->(∀ j x,j<k->L[j]? =some x->x.1<=e.1)->(∀ x,L[k]? =some x->¬x.1<=e.1)->pK e L=L.take k++e::L.drop k
 | [],k,a,_,_=>by simp at a;subst a;rfl
 |y::L,0,_,_,h=>by
  have:=h y rfl;rw[pK,bV this];rfl
 |y::L,k+1,a,b,c=>by
  have d:=b 0 y dB rfl;rw[pK,bU d,putV_split (L:=L) (k:=k) (by simpa using a) (λj x hj hx=>b (j+1) x dB (by simpa using hx)) (λx hx=>c x (by simpa using hx))];rfl
section
variable{W:World}
theorem ap_rev{w:World}{base n m c:Nat}{A:Option Addr}{x:Value}{xs:List Value}{L:List dP}{K:Value->World->Prop}(a:w.ownsRow base 111 3 x n xs)(d:m=L.length)(e:fp w A (L.flatMap gR))(p:n+m<=1048576)(hb:base<=w.heap.size)
  (f:∀x' w',w'.ownsRow base 111 3 x' (n+m) (xs++L.flatMap gR)->w.grownBy w' x.ownBlock->K x' w'):cP prog (Builtin.append_ #[109,109] 109 #[x,.slice A m c]) w K:=by
 obtain⟨i,g,k,l,b⟩:=inf_111;subst d;exact ja (base:=base) (xs:=xs) (n:=n) (news:=L.flatMap gR) (m:=L.length) Tryz.underlying109 g k l rfl dB a (gL iE L) (λj u o=>e j u o) (evs_one L) (by unfold maxLen;omega) (by rw[b];omega) hb f
theorem l_refPut{L:List dP}(hl:L.length<=100000){A:Option Addr}{c g:Nat}(hc:L.length<=c){e:dP}:∀(d k:Nat) (w:World),fp w A (L.flatMap gR)->hp w g=some (.cells (gR e).toArray 111)->ad [] W w->k+d=L.length->
  (∀ j x,j<k->L[j]? =some x->x.1<=e.1)->P87_0 (.slice A L.length c) (bS g) (bN k) w λv w'=>jT w' W.heap.size v (pK e L)/\ad [] W w':=by
 have fin:∀(k:Nat) (w:World),fp w A (L.flatMap gR)->hp w g=some (.cells (gR e).toArray 111)->ad [] W w->k<=L.length->(∀ j x,j<k->L[j]? =some x->x.1<=e.1)->(∀ x,L[k]? =some x->¬x.1<=e.1)->
   mV (ai prog (Instr.sliceAt 109 (.slice A L.length c) none (some (bN k)) none)) λr=>cP prog (Builtin.append_ #[109,109] 109 #[(.slice none 0 0),r]) w λs w=>
    mV (gi prog 111 (bS g) w) λy=>cP prog (Instr.buildSlice 109 1 #[(0,y)]) w λz w=>cP prog (Builtin.append_ #[109,109] 109 #[s,z]) w λB w=>
    mV (ai prog (Instr.sliceAt 109 (.slice A L.length c) (some (bN k)) none none)) λC=>cP prog (Builtin.append_ #[109,109] 109 #[B,C]) w λD w=>jT w W.heap.size D (pK e L)/\ad [] W w:=by
  intro k w l m p f M O;have a:((k:Int)).toNat=k:=cj k;rw[tB Tryz.underlying109 nD dB dB,a];simp only[ac];have hT:fp w A ((L.take k).flatMap gR):=by rw[<- flat_take iE];exact l.take _
  refine ap_rev (base:=w.heap.size) (n:=0) (xs:= []) (L:=L.take k) (World.ownsRow_nil _ _ _ _) (by simp;omega) hT dB (cy _) λx1 w1 E P=>?_;have F:ad [] w w1:=(ad.refl _ _).grown P λk f=>by simp[Value.ownBlock]at f
  rw[List.nil_append]at E;have G:=F.at m (by simp);rw[aR (t:=111) (c:=(gR e).toArray) ag_111 (show(Tryz.prog.info? 111).map (·.size)=some (gR e).toArray.size from nD) G];simp only[ac];refine ps_109 (λu Q=>evC_one e u Q) E dB F.size λx2 w2 K R _=>?_;have H:ad [] w w2:=F.grown R λk f=> .inr (oS E f);rw[tA Tryz.underlying109 nD dB dB,a];simp only[ac];have I:=l.ao H.below;have S:fp w2 (if c=k then A else A.map (·.add (k*3))) ((L.drop k).flatMap gR):=by
   rw[<- flat_drop iE];exact I.drop c k 3 λh=>by rw[gL iE];omega
  refine ap_rev (base:=w.heap.size) (L:=L.drop k) K (by simp) S dB H.size λx3 T U V=>?_;have X:ad [] w T:=H.grown V λk f=> .inr (oS K f);refine⟨?_,p.trans X⟩;rw[putV_split f M O];refine jT.mono ?_ p.size;refine jT.own (base:=w.heap.size) (n:=0+k+1+(L.length-k)) (by rw[List.flatMap_append,dj];simpa [gR]using U) (by simp;omega)
 intro d;induction d with
 |zero=>
  intro k w l m p f h;apply L87_0_ok;have:¬((k:Int)<L.length):=dB;simp only[L87_0,len_109,zS,this];exact fin k w.drew l m (p.drew) dB h λx i=>by rw[List.getElem?_eq_none dB]at i;cases i
 |succ d Y=>
  intro k w l m p f h;apply L87_0_ok;have J:(k:Int)<L.length:=dB;have q:k<L.length:=dB;obtain⟨b,o,Z,q2⟩:=ev_at (c:=c) Tryz.underlying109 nD l q;have e0:an (hp w g) (0+0)=some (bN e.1):=by rw[m,aN];rfl
  simp only[L87_0,len_109,zS,J,Z,fa_111_0,ag,q2.c0,e0];by_cases a:L[k].1<=e.1
  ·simp only[zS,a,aj,ap (n:=(k:Int)+1) dB dB];refine Y (k+1) w.drew l m p.drew dB λj x hj i=>?_;rcases dh j k with hj'|hj'
   ·exact h j x hj' i
   ·have:j=k:=dB;subst this;rw[bX q]at i;cases i;exact a
  ·simp only[zS,a];exact fin k w.drew l m p.drew dB h λx i=>by rw[bX q]at i;cases i;exact a
theorem c_refPut{L:List dP}(b:L.length<=100000){v:Value}{w:World}{B:Nat}(d:jT w B v L)(e:dP):aa prog 87 [v,.agg (gR e).toArray] w λv w'=>jT w' w.heap.size v (pK e L)/\ad [] w w':=by
 obtain⟨A,c,rfl,f,g,_⟩:=d;apply F87_ok;simp only[F87,ak,aq];have a:ad [] w (w.alloc (.cells (gR e).toArray 111)):=(ad.refl _ _).alloc _;exact l_refPut b g L.length 0 _ (f.ao a.below) (by rw[af,bU rfl]) a dB λj x i=>dB
theorem bde(s i:Int)(b:Bool):ai prog (Instr.build 111 #[(0,bN s),(1,bN i),(2,.bool b)])=some (.agg (gR (s,i,b)).toArray):=bd_111_0_1_2
def oU(l:List di)(i:Nat):List dP:=sortR (nQ (l.take i))
theorem rawEv_succ{l:List di}{i:Nat}(a:i<l.length):nQ (l.take (i+1))=nQ (l.take i)++nP i l[i]:=by
 rw[List.take_succ_eq_append_getElem a,nQ,rawFrom_app,nQ,dt,Nat.min_eq_left dB,cM]
theorem sortTo_succ{l:List di}{i:Nat}(b:i<l.length):oU l (i+1)=(nP i l[i]).foldl (λa e=>pK e a) (oU l i):=by
 rw[oU,rawEv_succ b,sortR,List.foldl_append];rfl
theorem sortR_len:∀(l a:List dP),(l.foldl (λa e=>pK e a) a).length=a.length+l.length
 | [],a=>rfl
 |e::l,a=>by rw[List.foldl_cons,sortR_len l,(nj e a).length_eq];simp;omega
theorem sortTo_len(l:List di)(i:Nat):(oU l i).length<=2*l.length:=by
 rw[oU,sortR,sortR_len];have:=oH (l.take i) 0;have a:(l.take i).length<=l.length:=by simp;omega
 unfold nQ;simp only[cY];omega
theorem l_refSort{l:List di}(M:l.length<=10000){A:Option Addr}{c:Nat}:∀(d i:Nat) (v:Value) (w:World),fp w A (l.flatMap jS)->jT w W.heap.size v (oU l i)->ad [] W w->i+d=l.length->
  P51_0 (.slice A l.length c) v (bN i) w λv w'=>jT w' W.heap.size v (evs l)/\ad [] W w':=by
 intro d;induction d with
 |zero=>
  intro i v w t a q B;apply L51_0_ok;have:¬((i:Int)<l.length):=dB;simp only[L51_0,iP,zS,this];have:oU l i=evs l:=by rw[oU,dA dB];rfl
  rw[this]at a;exact⟨a,q⟩
 |succ d C=>
  intro i v w t a q B;apply L51_0_ok;have x:(i:Int)<l.length:=dB;have k:i<l.length:=dB;obtain⟨b,o,D,E⟩:=iQ (c:=c) (j:= .i64) (i:=i) t k;have F:an (hp w b) (o+9)=some (bN l[i].pt):=E.f 9 dB;have O:=sortTo_len l i;have last:∀(v:Value) (w':World),ad [] w w'->jT w' W.heap.size v (oU l (i+1))->P51_2 (.slice A l.length c) v (bN i) w' λv w'=>jT w' W.heap.size v (evs l)/\ad [] W w':=by
   intro v w' m a;apply L51_2_ok;simp only[L51_2,aj,ap (n:=(i:Int)+1) dB dB,zS];exact C (i+1) v w' (t.ao m.below) a (q.trans m) dB
  have r:∀(v:Value) (w':World) (L:List dP),ad [] w w'->jT w' W.heap.size v L->L.length<=100000->(if 0<=l[i].bk then [(l[i].bk,(i:Int),true)]else []).foldl (λy e=>pK e y) L=oU l (i+1)->
    P51_1 (.slice A l.length c) v (bN i) w' λv w'=>jT w' W.heap.size v (evs l)/\ad [] W w':=by
   intro v w' L m a G u;apply L51_1_ok;obtain⟨H,o',I,J⟩:=iQ (c:=c) (j:= .i64) (i:=i) (t.ao m.below) k;have K:an (hp w' H) (o'+10)=some (bN l[i].bk):=J.f 10 dB;simp only[L51_1,I,sy,ag,K,zS];by_cases hb:0<=l[i].bk
   ·rw[bU hb]at u;simp only[zS,hb,bde];refine(c_refPut G a _).mono ?_;rintro v2 w2 ⟨p,z⟩;exact last v2 w2 (m.trans z) (u▸p.mono (q.trans m).size)
   ·rw[bV hb]at u;simp only[zS,hb];exact last v w' m (u▸a)
  simp only[L51_0,iP,zS,x,D,kS,ag,F];have s:=sortTo_succ k;rw[nP,List.foldl_append]at s;by_cases g:0<=l[i].pt
  ·rw[bU g]at s;simp only[zS,g,bde];refine(c_refPut dB a _).mono ?_;rintro v2 w2 ⟨p,z⟩;exact r v2 w2 _ z (p.mono q.size) (by rw[(nj _ _).length_eq];simp;omega) s.symm
  ·rw[bV g]at s;simp only[zS,g];exact r v w _ (ad.refl _ _) a dB s.symm
theorem c_refSort{l:List di}(a:l.length<=10000){A:Option Addr}{c:Nat}{w:World}(b:fp w A (l.flatMap jS)):aa prog 51 [.slice A l.length c] w λv w'=>jT w' w.heap.size v (evs l)/\ad [] w w':=by
 apply F51_ok;exact l_refSort a l.length 0 _ w b (jT.nil w _) (ad.refl _ _) dB
end
theorem c_isNaN(x:Int)(w:World):aa prog 81 [bN x] w λv w'=>v= .bool false/\w'=w:=by
 apply F81_ok;simp only[F81,zS];exact⟨trivial,trivial⟩
theorem c_cmpInt(x y:Int)(w:World):aa prog 47 [bN x,bN y] w λv w'=>v=bN (if x<y then -1 else if y<x then 1 else 0)/\w'=w:=by
 apply F47_ok;simp only[F47];refine(c_isNaN x w).step ?_;refine(c_isNaN y w).step ?_;by_cases h:x<y
 ·simp only[zS,h,if_true];exact⟨trivial,trivial⟩
 by_cases a:y<x
 ·simp only[zS,h,a,if_true,if_false];exact⟨trivial,trivial⟩
 ·simp only[zS,h,a,if_false];exact⟨trivial,trivial⟩
theorem c_oSortF(a b:dP)(w:World):aa prog 46 [.agg (gR a).toArray,.agg (gR b).toArray] w λv w'=>v=bN (cmpV a b)/\ad [] w w':=by
 apply F46_ok;simp only[F46,ak,aq,ah];generalize c:(w.alloc (.cells (gR a).toArray 58)).alloc _=w1;have f:ad [] w w1:=by rw[<- c];exact((ad.refl _ _).alloc _).alloc _
 have g:hp w1 w.heap.size=some (.cells (gR a).toArray 58):=by rw[<- c,af,ah,bV dB,af,bU rfl]
 have i:hp w1 (w.heap.size+1)=some (.cells (gR b).toArray 58):=by rw[<- c,af,ah,bU rfl]
 clear c;have j:an (hp w1 w.heap.size) (0+0)=some (bN a.1):=by rw[g,aN];rfl
 have k:an (hp w1 w.heap.size) (0+2)=some (.bool a.2.2):=by rw[g,aN];rfl
 have l:an (hp w1 (w.heap.size+1)) (0+0)=some (bN b.1):=by rw[i,aN];rfl
 have m:an (hp w1 (w.heap.size+1)) (0+2)=some (.bool b.2.2):=by rw[i,aN];rfl
 by_cases h:a.1=b.1
 ·simp only[zS,fa_58_0,fa_58_2,ag,az,j,k,l,m,h,be_eqlb Tryz.underlying4];obtain⟨x1,p,n⟩:=a;obtain⟨q,r,o⟩:=b;simp only at h⊢;subst h;cases n<;>cases o<;>(simp only[zS];exact⟨by simp[cmpV],f⟩)
 ·have e:(a.1 !=b.1)=true:=bne_iff_ne.2 h;simp only[zS,fa_58_0,fa_58_2,ag,az,j,k,l,m,e];refine(c_cmpInt a.1 b.1 w1).mono ?_;rintro _ w2 ⟨rfl,rfl⟩;refine⟨?_,f⟩;rw[cmpV,bU h];by_cases d:a.1<b.1
  ·rw[bU d,bU d]
  ·rw[bV d,bV d,bU dB]
theorem evG_callO{P:Program}{a:FuncId->Bool}{g:FuncId}{first cap:Array Value}{vs args:List Value}{w:World}{K:Value->World->Prop}(h:a g=true)(b:first.toList++vs++cap.toList=args)(c:aa P g args w K):
  evG P (nl a (some (.func (.func g) first cap)) (some vs)) (.bool true) true w K:=by
 rw[sj rfl];subst b;simp only[nl,h,cond_true,evP];exact c
theorem sP(X:List dP):(oI X).length=X.length:=by
 have:∀(l a:List dP),(l.foldl (λa e=>oR e a) a).length=a.length+l.length:=by
  intro l;induction l with
  |nil=>intro a;rfl
  |cons e l b=>intro a;rw[List.foldl_cons,b,(pM e a).length_eq];simp;omega
 rw[oI,List.length_reverse,this];simp
section
variable{w:World}{base n c g:Nat}{X:List dP}
abbrev hZ(g n c:Nat):Value:= .slice (some ⟨g,0,none⟩) n c
theorem rU(h:w.ownsRow base 58 3 (hZ g n c) n (X.flatMap gR)){i:Nat}(d:i<X.length)(f:n=X.length):
  ai prog (Instr.indexAt 55 (hZ g n c) (bN i))=some (.pointer (some ⟨g,i*3,none⟩))/\gi prog 58 (.pointer (some ⟨g,i*3,none⟩)) w=some (.agg (gR X[i]).toArray):=by
 obtain⟨k,l,e,m,a,o,b,p⟩:=kQ (i:=(i:Int)) (j:= .i64) h Tryz.underlying55 sz_58 dB dB;cases e;rw[cj]at a b;refine⟨a,?_⟩;rw[ld_58,b,jX iE X i d];rfl
theorem ev_set(h:w.ownsRow base 58 3 (hZ g n c) n (X.flatMap gR)){i:Nat}(a:i<X.length)(b:n=X.length)(e:dP):
  ∃w',(∀ K,ck prog (Instr.storeAt 58 (.pointer (some ⟨g,i*3,none⟩)) (.agg (gR e).toArray)) w K=K w')/\w'.ownsRow base 58 3 (hZ g n c) n ((X.set i e).flatMap gR)/\ad [g] w w':=by
 obtain⟨p1,p2⟩:=oy (vs:=gR e) h (g:=g) rfl (o:=i*3) (by rw[iE];omega);rw[iE]at p2;refine⟨_,λK=>kq (n:=3) sz_58 (by simp[aq];rfl) (by rw[aq];exact List.all_eq_true.2 (evC_one e)) dB p2,?_,?_⟩
 ·have:=flat_part iE e 0 (gR e) (by rw[iE];omega) X i a (by rw[dk (by rw[iE,iE];omega)];simp);rw[Nat.add_zero]at this;rw[this]at p1;rw[aq];exact p1
 ·exact(ad.refl _ _).put (.inl (by simp)) _ _
end
theorem set_swap{y e:dP}{S:List dP}:∀Q:List dP,((Q++y::e::S).set (Q.length+1) y).set Q.length e=Q++e::y::S
 | []=>rfl
 |q::Q=>by simp only[List.cons_append,du,List.set_cons_succ,set_swap Q]
theorem mid_get{y:dP}{S:List dP}(Q:List dP)(h:Q.length<(Q++y::S).length):(Q++y::S)[Q.length]=y:=by simp
theorem mid_get1{y e:dP}{S:List dP}(Q:List dP)(h:Q.length+1<(Q++y::e::S).length):(Q++y::e::S)[Q.length+1]=e:=by
 rw[List.getElem_append_right dB];simp
section
variable{W:World}{base n c g:Nat}{Q:Value->World->Prop}
theorem l_ins1(v:n<=1000000){P0:List dP}{e:dP}{i:Nat}{F:Value}(J:i<n):∀(R S:List dP) (w:World),n=P0.length+R.length+1+S.length->w.ownsRow base 58 3 (hZ g n c) n ((P0++R.reverse++e::S).flatMap gR)->ad [g] W w->
  (∀ w',w'.ownsRow base 58 3 (hZ g n c) n ((P0++(oR e R).reverse++S).flatMap gR)->ad [g] W w'->P126_0 (hZ g n c) (bN P0.length) F (.func (.func 46) #[] #[]) (bN ((i:Int)+1)) w' Q)->
  P126_1 (hZ g n c) (bN P0.length) F (.func (.func 46) #[] #[]) (bN i) (bN ((P0.length+R.length:Nat):Int)) w Q
 | [],S,w,x,j,z,next=>by
  apply L126_1_ok;have:¬((P0.length:Int)<((P0.length+([]:List dP).length:Nat):Int)):=by simp
  simp only[L126_1,zS,this];refine(evG_not rfl).2 ⟨trivial,?_⟩;simp only[zS,aj,ap (n:=(i:Int)+1) dB dB];exact next w.drew (by simpa [oR]using kP j) z.drew
 |y::R,S,w,x,j,z,next=>by
  apply L126_1_ok;have K:∃a:List dP,a=P0++R.reverse:=⟨_,rfl⟩
  obtain⟨a,t⟩:=K;have l:a.length=P0.length+R.length:=by rw[t];simp
  have L:P0++(y::R).reverse++e::S=a++y::e::S:=by rw[t];simp
  rw[L]at j;have M:((P0.length+(y::R).length:Nat):Int)=((a.length+1:Nat):Int):=by rw[l];simp;omega
  have b:n=(a++y::e::S).length:=by simp at x ⊢;omega
  have A:(P0.length:Int)<((a.length+1:Nat):Int):=dB;have m:(((a.length+1:Nat):Int)-1)=((a.length:Nat):Int):=dB;obtain⟨O,P⟩:=rU j (i:=a.length+1) (by simp) b;obtain⟨T,U⟩:=rU j (i:=a.length) (by simp) b;rw[mid_get1]at P;rw[mid_get]at U;have o:=kP j;obtain⟨_,p⟩:=rU o (i:=a.length+1) (by simp) b;obtain⟨_,q⟩:=rU o (i:=a.length) (by simp) b;rw[mid_get1]at p;rw[mid_get]at q;rw[M];simp only[L126_1,zS,A,O,p,aH,m,ap (n:=((a.length:Nat):Int)) dB dB,T,q];refine evG_callO (first:= #[]) (cap:= #[]) (vs:= [.agg (gR e).toArray,.agg (gR y).toArray]) (args:= [.agg (gR e).toArray,.agg (gR y).toArray]) rfl rfl ?_;refine(c_oSortF e y w.drew).mono ?_;rintro _ w1 ⟨rfl,u⟩;have u:ad [] w w1:=(ad.refl _ _).drew.trans u;have d:=bM j u (λk G=>by simp);have r:ad [g] W w1:=z.trans (u.mono λk G _=>by simp at G);by_cases f:cmpV e y<0
  ·obtain⟨j1,H⟩:=rU (kP d) (i:=a.length+1) (by simp) b;obtain⟨j0,I⟩:=rU (kP d) (i:=a.length) (by simp) b;rw[mid_get1]at H;rw[mid_get]at I;obtain⟨w2,V,X,Y⟩:=ev_set (kP d) (i:=a.length+1) (by simp) b y;have s:n=((a++y::e::S).set (a.length+1) y).length:=by rw[cE];exact b
   obtain⟨Z,s3,B,c3⟩:=ev_set X (i:=a.length) (by simp) s e;rw[set_swap]at B;simp only[zS,f,I,H,V,s3];have:=l_ins1 v J R (y::S) Z (by simp at x ⊢;omega) (by rw[t]at B;exact B) (r.drew.trans (Y.trans c3)) (λw' C D=>next w' (by
    have E:P0++(oR e R).reverse++y::S=P0++(oR e (y::R)).reverse++S:=by rw[oR,bU f];simp
    rw[<- E];exact C) D)
   rw[l];exact this
  ·simp only[zS,f,aj,ap (n:=(i:Int)+1) dB dB];refine next w1 ?_ r
   have E:P0++(oR e (y::R)).reverse++S=a++y::e::S:=by rw[oR,bV f,t];simp
   rw[E];exact d
theorem l_ins0(a:n<=1000000){P0 S:List dP}:∀(todo R:List dP) (w:World),R≠ []->n=P0.length+R.length+todo.length+S.length->w.ownsRow base 58 3 (hZ g n c) n ((P0++R.reverse++todo++S).flatMap gR)->ad [g] W w->
  (∀ w',w'.ownsRow base 58 3 (hZ g n c) n ((P0++(todo.foldl (λb e=>oR e b) R).reverse++S).flatMap gR)->ad [g] W w'->Q (.tuple #[]) w')->
  P126_0 (hZ g n c) (bN P0.length) (bN ((P0.length+R.length+todo.length:Nat):Int)) (.func (.func 46) #[] #[]) (bN ((P0.length+R.length:Nat):Int)) w Q
 | [],R,w,r,q,d,f,next=>by
  apply L126_0_ok;have:¬(((P0.length+R.length:Nat):Int)<((P0.length+R.length+([]:List dP).length:Nat):Int)):=by simp
  simp only[L126_0,zS,this];exact next w (by simpa using d) f
 |e::todo,R,w,r,q,d,f,next=>by
  apply L126_0_ok;have j:(((P0.length+R.length:Nat):Int)<((P0.length+R.length+(e::todo).length:Nat):Int)):=by simp;omega
  simp only[L126_0,zS,j];simp only[du]at q;refine l_ins1 a (i:=P0.length+R.length) dB R (todo++S) w (by simp;omega) (by simpa using d) f λw' k l=>?_;have m:(oR e R).length=R.length+1:=by rw[(pM e R).length_eq];simp
  have:=l_ins0 a (P0:=P0) (S:=S) todo (oR e R) w' (λh=>by rw[h]at m;simp at m) dB (by simpa using k) l (λw2 o p=>next w2 (by simpa using o) p);rw[m]at this;have s:((P0.length+R.length+(e::todo).length:Nat):Int)=((P0.length+(R.length+1)+todo.length:Nat):Int):=by simp only[du];omega
  have t:(((P0.length+R.length:Nat):Int)+1)=((P0.length+(R.length+1):Nat):Int):=dB;rw[s,t];exact this
theorem c_insSort(a:n<=1000000){P0 M S:List dP}{w:World}(f:n=P0.length+M.length+S.length)(e:w.ownsRow base 58 3 (hZ g n c) n ((P0++M++S).flatMap gR)):
  aa prog 126 [hZ g n c,bN P0.length,bN ((P0.length+M.length:Nat):Int),.func (.func 46) #[] #[]] w λv w'=>v= .tuple #[]/\w'.ownsRow base 58 3 (hZ g n c) n ((P0++oI M++S).flatMap gR)/\ad [g] w w':=by
 apply F126_ok;simp only[F126,aj,ap (n:=(P0.length:Int)+1) dB dB,zS];cases M with
 |nil=>
  apply L126_0_ok;have:¬((P0.length:Int)+1<((P0.length+([]:List dP).length:Nat):Int)):=by simp;omega
  simp only[L126_0,zS,this];exact⟨trivial,by simpa [oI]using e,ad.refl _ _⟩
 |cons m M=>
  have:=l_ins0 (W:=w) (Q:=λv w'=>v= .tuple #[]/\w'.ownsRow base 58 3 (hZ g n c) n ((P0++oI (m::M)++S).flatMap gR)/\ad [g] w w') a (P0:=P0) (S:=S) M [m] w (by simp) (by simp at f ⊢;omega) (by simpa using e) (ad.refl _ _)
   λw' b d=>⟨rfl,by simpa [oI,oR]using b,d⟩
  have i:((P0.length+(m::M).length:Nat):Int)=((P0.length+ [m].length+M.length:Nat):Int):=by simp;omega
  have j:((P0.length:Int)+1)=((P0.length+ [m].length:Nat):Int):=by simp
  rw[i,j];exact this
end
section
variable{W w w':World}{base n c g:Nat}{Q:Value->World->Prop}{P S U V M X Y Z:List dP}{a b e:dP}
def Rw(base g n c:Nat)(w:World)(Z:List dP):Prop:=w.ownsRow base 58 3 (hZ g n c) n (Z.flatMap gR)
theorem Rw.len(h:Rw base g n c w Z):n=Z.length:=by
 have:=h.1;rw[hU iE]at this;omega
theorem Rw.drew(h:Rw base g n c w Z):Rw base g n c w.drew Z:=h
theorem Rw.at(h:Rw base g n c w (U++a::S)):ai prog (Instr.indexAt 55 (hZ g n c) (bN (U.length:Nat)))=some (.pointer (some ⟨g,U.length*3,none⟩))/\gi prog 58 (.pointer (some ⟨g,U.length*3,none⟩)) w=some (.agg (gR a).toArray):=by
 have b:U.length<(U++a::S).length:=by simp
 obtain⟨d,e⟩:=rU h b h.len;exact⟨d,by rw[e,mid_get]⟩
theorem set_mid:∀(U:List dP) (a e:dP) (S:List dP),(U++a::S).set U.length e=U++e::S
 | [],_,_,_=>rfl
 |u::U,a,e,S=>by rw[List.cons_append,du,List.set_cons_succ,set_mid U];rfl
theorem Rw.set(h:Rw base g n c w (U++a::S))(e:dP):∃w',(∀ K,ck prog (Instr.storeAt 58 (.pointer (some ⟨g,U.length*3,none⟩)) (.agg (gR e).toArray)) w K=K w')/\Rw base g n c w' (U++e::S)/\ad [g] w w':=by
 have d:U.length<(U++a::S).length:=by simp
 obtain⟨w',f,b,i⟩:=ev_set h d h.len e;rw[set_mid]at b;exact⟨w',f,b,i⟩
theorem mid2(U V S:List dP)(a b:dP):U++a::(V++b::S)=(U++a::V)++b::S:=by simp
theorem rV{x y:Nat}(h:x+y<=4000000):IntKind.i64.wrap ((x:Int)+(y:Int))=((x+y:Nat):Int):=by rw[ap dB dB];omega
theorem nS{x y:Nat}(h:y<=x)(a:x<=4000000):IntKind.i64.wrap ((x:Int)-(y:Int))=((x-y:Nat):Int):=by rw[ap dB dB];omega
theorem wrap_1{x:Nat}(h:x<=4000000):IntKind.i64.wrap ((x:Int)+1)=((x+1:Nat):Int):=by rw[ap dB dB];omega
theorem l_swap(r:n<=1000000):∀(i j d f:List dP) (w:World) (x1 o l k:Nat),i.length=j.length->d.length=f.length->x1=P.length->o=P.length+f.length+i.length+M.length->l=d.length+i.length->k=d.length->Rw base g n c w (P++f++i++M++d++j++S)->ad [g] W w->
  (∀ w',Rw base g n c w' (P++(f++j)++M++(d++i)++S)->ad [g] W w'->Q (.tuple #[]) w')->P207_0 (hZ g n c) (bN x1) (bN o) (bN l) (bN k) w Q
 | [], [],d,f,w,x1,o,l,k,_,x,y,z,s,A,m,t,next=>by
  apply L207_0_ok;have C:¬(k:Int)<l:=by rw[s,A,cY];omega
  simp -implicitDefEqProofs only[L207_0,ac,aG,C,z2z,zS];exact next w (by simpa using m) t
 |a::i,b::j,d,f,w,x1,o,l,k,D,x,y,z,s,A,m,t,next=>by
  apply L207_0_ok;have E:=m.len;simp only[cq,du]at E z s D;have u:(k:Int)<l:=dB;have F:P++f++(a::i)++M++d++(b::j)++S=(P++f)++a::((i++M++d)++b::(j++S)):=by simp[cJ]
  rw[F]at m;obtain⟨G,H⟩:=m.drew.at;have p:=m;rw[mid2]at p;obtain⟨I,J⟩:=p.drew.at;have K:IntKind.i64.wrap ((x1:Int)+(k:Int))=(((P++f).length:Nat):Int):=by rw[rV dB];simp only[cq];omega
  have L:IntKind.i64.wrap ((o:Int)+(k:Int))=(((P++f++a::(i++M++d)).length:Nat):Int):=by rw[rV dB];simp only[cq,du];omega
  have O:IntKind.i64.wrap ((k:Int)+1)=((k+1:Nat):Int):=wrap_1 dB;simp -implicitDefEqProofs (maxSteps:=3000000) only[L207_0,ac,aG,u,decide_true,aj,K,L,O,G,I,H,J,zS];obtain⟨w1,R,T,U⟩:=m.drew.set b;rw[R];have q:=T;rw[mid2]at q;obtain⟨w2,B,V,X⟩:=q.set a;have Y:(P++f++b::(i++M++d)).length=(P++f++a::(i++M++d)).length:=by simp
  rw[Y]at B;rw[B];have v:ad [g] W w2:=(t.trans ((ad.refl _ _).drew)).trans (U.trans X);refine l_swap r i j (d++ [a]) (f++ [b]) w2 x1 o l (k+1) dB (by simp[x]) y (by simp only[cq,du,cY];omega) (by simp only[cq,du,cY];omega) (by simp only[cq,du,cY];omega) ?_ v λw' Z hc=>?_
  ·have e:P++(f++ [b])++i++M++(d++ [a])++j++S=(P++f++b::(i++M++d))++a::(j++S):=by simp[cJ]
   rw[e];exact V
  ·refine next w' ?_ hc
   have e:P++(f++b::j)++M++(d++a::i)++S=P++(f++ [b]++j)++M++(d++ [a]++i)++S:=by simp[cJ]
   rw[e];exact Z
theorem rW(a:n<=1000000){A B:List dP}{e:Value}{x1 b d:Nat}(f:A.length=B.length)(i:x1=P.length)(m:b=P.length+A.length+M.length)(o:d=A.length)(j:Rw base g n c w (P++A++M++B++S)):
  aa prog 207 [hZ g n c,bN x1,bN b,bN d,e] w λv w'=>Rw base g n c w' (P++B++M++A++S)/\ad [g] w w':=by
 apply F207_ok;have:=l_swap (Q:=λv w'=>Rw base g n c w' (P++B++M++A++S)/\ad [g] w w') (W:=w) (P:=P) (M:=M) (S:=S) a A B [] [] w x1 b d 0 f rfl i (by simp only[cY];omega) (by simp only[cY];omega) rfl (by simpa using j) (ad.refl _ _) λw' k l=>⟨by simpa using k,l⟩
 exact this
theorem app_td(A l:List dP)(j:Nat):A++l.take j++l.drop j=A++l:=by rw[cJ,dg]
theorem l_rot(a:n<=1000000){x:Value}:∀(f:Nat) (P U V S:List dP) (w:World) (m i j:Nat),U.length+V.length<=f->U≠ []->V≠ []->m=P.length+U.length->i=U.length->j=V.length->Rw base g n c w (P++U++V++S)->ad [g] W w->
  (∀ w',Rw base g n c w' (P++V++U++S)->ad [g] W w'->Q (.tuple #[]) w')->P164_0 (hZ g n c) (bN m) x (bN i) (bN j) w Q
 |f,P,U,V,S,w,m,i,j,o,y,z,em,C,H,l,p,next=>by
  apply L164_0_ok;have D:=l.len;simp only[cq]at D;have I:=List.length_pos_iff.2 y;have J:=List.length_pos_iff.2 z;have r:IntKind.i64.wrap ((m:Int)-(i:Int))=((m-i:Nat):Int):=nS dB dB;by_cases s:i=j
  ·have q:((i:Int)!=(j:Int))=false:=by rw[s];exact bne_self_eq_false _
   simp -implicitDefEqProofs (maxSteps:=3000000) only[L164_0,ac,q,aH,r,zS];refine(rW (M:= []) a (A:=U) (B:=V) (P:=P) (S:=S) dB dB (by simp;omega) C (by simpa using l)).mono ?_;rintro _ w1 ⟨e,k⟩;exact next w1 (by simpa using e) (p.trans k)
  ·have q:((i:Int)!=(j:Int))=true:=bne_iff_ne.2 dB;match f,o with
   |0,o=>omega
   |f+1,o=>
   by_cases E:i>j
   ·have b:(i:Int)>(j:Int):=dB;have t:IntKind.i64.wrap ((i:Int)-(j:Int))=((i-j:Nat):Int):=nS dB dB;simp -implicitDefEqProofs (maxSteps:=3000000) only[L164_0,ac,q,fS,b,decide_true,aH,r,t,zS];have K:U=U.take j++U.drop j:=(dg j U).symm;have lt:(U.take j).length=j:=by rw[dt];omega
    have ld:(U.drop j).length=i-j:=by rw[List.length_drop];omega
    have d:Rw base g n c w (P++U.take j++U.drop j++V++S):=by rw[cJ P,dg];exact l
    refine(rW a (A:=U.take j) (B:=V) (M:=U.drop j) (P:=P) (S:=S) dB dB dB dB d).mono ?_;rintro _ w1 ⟨e,k⟩;refine l_rot a f (P++V) (U.drop j) (U.take j) S w1 m (i-j) j dB (λh=>by rw[h]at ld;simp at ld;omega) (λh=>by rw[h]at lt;simp at lt;omega) (by rw[cq];omega) ld.symm lt.symm e (p.trans k) λw' u v=>next w' ?_ v
    have:P++V++U++S=P++V++U.take j++U.drop j++S:=by rw[app_td (P++V)]
    rw[this];exact u
   ·have b:¬(i:Int)>(j:Int):=dB;have t:IntKind.i64.wrap ((m:Int)+(j:Int))=((m+j:Nat):Int):=rV dB;have F:IntKind.i64.wrap (((m+j:Nat):Int)-(i:Int))=((m+j-i:Nat):Int):=nS dB dB;have G:IntKind.i64.wrap ((j:Int)-(i:Int))=((j-i:Nat):Int):=nS dB dB;simp -implicitDefEqProofs (maxSteps:=3000000) only[L164_0,ac,q,fS,b,decide_false,aH,aj,r,t,F,G,zS];have lt:(V.take (j-i)).length=j-i:=by rw[dt];omega
    have ld:(V.drop (j-i)).length=i:=by rw[List.length_drop];omega
    have d:Rw base g n c w (P++U++V.take (j-i)++V.drop (j-i)++S):=by rw[cJ (P++U),dg];exact l
    refine(rW a (A:=U) (B:=V.drop (j-i)) (M:=V.take (j-i)) (P:=P) (S:=S) dB dB dB dB d).mono ?_;rintro _ w1 ⟨e,k⟩;refine l_rot a f P (V.drop (j-i)) (V.take (j-i)) (U++S) w1 m i (j-i) dB (λh=>by rw[h]at ld;simp at ld;omega) (λh=>by rw[h]at lt;simp at lt;omega) dB ld.symm lt.symm (by rw[<- cJ];exact e) (p.trans k) λw' u v=>next w' ?_ v
    have:P++V++U++S=P++V.take (j-i)++V.drop (j-i)++(U++S):=by rw[app_td P,<-cJ]
    rw[this];exact u
theorem c_rotate(d:n<=1000000){f:Value}{x1 a b:Nat}(i:U≠ [])(j:V≠ [])(r:x1=P.length)(k:a=P.length+U.length)(s:b=P.length+U.length+V.length)(e:Rw base g n c w (P++U++V++S)):
  aa prog 164 [hZ g n c,bN x1,bN a,bN b,f] w λv w'=>Rw base g n c w' (P++V++U++S)/\ad [g] w w':=by
 apply F164_ok;have l:=e.len;simp only[cq]at l;have m:IntKind.i64.wrap ((a:Int)-(x1:Int))=((a-x1:Nat):Int):=nS dB dB;have o:IntKind.i64.wrap ((b:Int)-(a:Int))=((b-a:Nat):Int):=nS dB dB;simp -implicitDefEqProofs only[F164,aH,m,o,ac];exact l_rot d (U.length+V.length) P U V S w a (a-x1) (b-a) (cy _) i j k dB dB e (ad.refl _ _) λw' p q=>⟨p,q⟩
end
theorem half{x:Nat}:((x:Nat):Int).fdiv (2 ^ (min (1:Int).toNat IntKind.u64.bits))=((x/2:Nat):Int):=by
 have:(2:Int) ^ (min (1:Int).toNat IntKind.u64.bits)=2:=dC;rw[this,Int.fdiv_eq_ediv_of_nonneg _ dB];omega
def LoB(L:List dP)(k:Nat)(T:Int):Prop:=k=0\/∃y,L[k-1]? =some y/\y.1<T
def HiB(L:List dP)(k:Nat)(T:Int):Prop:=L.length<=k\/∃y,L[k]? =some y/\T<y.1
theorem asc_lo{L:List dP}(h:sO L){k:Nat}{T:Int}(c:LoB L k T):∀z∈L.take k,z.1<T:=λz a=>by
 rcases c with rfl|⟨y,d,f⟩
 ·simp at a
 ·obtain⟨i,g,rfl⟩:=List.getElem_of_mem a;rw[dt]at g;obtain⟨j,b⟩:=bY.1 d;rw[List.getElem_take];by_cases e:i=k-1
  ·subst e;rw[b];exact f
  ·have:=List.pairwise_iff_getElem.1 h i (k-1) dB j dB;rw[b]at this;omega
theorem asc_hi{L:List dP}(h:sO L){k:Nat}{T:Int}(c:HiB L k T):∀z∈L.drop k,T<z.1:=λz a=>by
 rcases c with d|⟨y,f,g⟩
 ·rw[dk d]at a;simp at a
 ·obtain⟨i,j,rfl⟩:=List.getElem_of_mem a;rw[List.length_drop]at j;obtain⟨l,b⟩:=bY.1 f;rw[List.getElem_drop];by_cases e:i=0
  ·subst e;simp only[Nat.add_zero];rw[b];exact g
  ·have:=List.pairwise_iff_getElem.1 h k (k+i) l dB dB;rw[b]at this;omega
theorem pO{L:List dP}(h:sO L)(k:Nat):sO (L.take k):=h.sublist (List.take_sublist k L)
theorem pP{L:List dP}(h:sO L)(k:Nat):sO (L.drop k):=h.sublist (List.drop_sublist k L)
theorem asc_app{A B:List dP}(a:sO A)(b:sO B)(h:∀x∈A,∀y∈B,x.1<y.1):sO (A++B):=List.pairwise_append.2 ⟨a,b,h⟩
section
variable{W w w':World}{base n c g:Nat}{Q:Value->World->Prop}{P S U V M X Y Z:List dP}{a b e:dP}
theorem Rw.ix(h:Rw base g n c w Z){i:Nat}(a:Z[i]? =some e):ai prog (Instr.indexAt 55 (hZ g n c) (bN (i:Nat)))=some (.pointer (some ⟨g,i*3,none⟩))/\gi prog 58 (.pointer (some ⟨g,i*3,none⟩)) w=some (.agg (gR e).toArray):=by
 obtain⟨b,a⟩:=bY.1 a;obtain⟨d,f⟩:=rU h b h.len;exact⟨d,by rw[f,a]⟩
theorem Rw.aF(h:Rw base g n c w Z)(a:ad [] w w'):Rw base g n c w' Z:=bM h a (λ_ _=>by simp)
theorem get_x{k:Nat}(h:X[k]? =some e):(P++X++Y++S)[P.length+k]? =some e:=by
 have a:=(bY.1 h).1;rw[cJ (P++X),List.getElem?_append_left (by rw[cq];omega),List.getElem?_append_right dB];rw[show P.length+k-P.length=k by omega];exact h
theorem get_y{k:Nat}(h:Y[k]? =some e):(P++X++Y++S)[P.length+X.length+k]? =some e:=by
 have a:=(bY.1 h).1;rw[List.getElem?_append_left (by rw[cq,cq];omega),List.getElem?_append_right (by rw[cq];omega)];rw[cq,show P.length+X.length+k-(P.length+X.length)=k by omega];exact h
abbrev s6:Value:= .func (.func 46) #[] #[]
theorem wrap_h{x:Nat}(h:x<=4000000):IntKind.u64.wrap (x:Int)=x:=nr dB dB
theorem wrap_i{x:Nat}(h:x<=4000000):IntKind.i64.wrap (x:Int)=x:=ap dB dB
theorem evPc{x y:dP}{K:Value->World->Prop}{a:FuncId->Bool}(h:a 46=true)(b:∀w',ad [] w w'->K (bN (cmpV x y)) w'):evP prog (nl a (some s6) (some [.agg (gR x).toArray,.agg (gR y).toArray])) w K:=by
 simp only[nl,h,cond_true,evP];refine aa.mono (c_oSortF x y w) ?_;rintro _ w1 ⟨rfl,c⟩;exact b w1 c
theorem l_bs1(b:n<=1000000){x:dP}(r:∀y∈Y,y.1≠x.1):∀(f p q i j:Nat) (w:World),q-p<=f->p<=q->q<=Y.length->i=P.length+1+p->j=P.length+1+q->Rw base g n c w (P++ [x]++Y++S)->ad [g] W w->LoB Y p x.1->HiB Y q x.1->
  (∀ (k:Nat) (w':World),k<=Y.length->Rw base g n c w' (P++ [x]++Y++S)->ad [g] W w'->LoB Y k x.1->HiB Y k x.1->P127_3 (hZ g n c) (bN ((P.length+1+k:Nat):Int)) (bN (P.length:Nat)) w' Q)->
  P127_0 (hZ g n c) (bN (P.length:Nat)) s6 (bN i) (bN j) w Q
 |f,p,q,i,j,w,u,G,z,A,H,d,B,C,D,next=>by
  apply L127_0_ok;have I:=d.len;simp only[cq,du,cY]at I;by_cases J:p<q
  ·match f,u with
   |0,u=>omega
   |f+1,u=>
   have a:(i:Int)<j:=dB;obtain⟨k,K⟩:∃k,(i+j)/2=P.length+1+k:=⟨(i+j)/2-(P.length+1),dB⟩
   have hk:p<=k/\k<q:=dB;obtain⟨y,s⟩:∃y,Y[k]? =some y:=⟨_,bX dB⟩
   have l:=cD s;have E:=get_y (P:=P) (X:= [x]) (S:=S) s;have gx:=get_x (P:=P) (X:= [x]) (Y:=Y) (S:=S) (k:=0) (e:=x) rfl;rw[List.length_singleton]at E;rw[Nat.add_zero]at gx;obtain⟨L,M⟩:=d.drew.ix E;obtain⟨x1,O⟩:=d.drew.ix gx;have R:IntKind.i64.wrap ((i:Int)+(j:Int))=((i+j:Nat):Int):=rV dB;have T:=wrap_h (x:=i+j) dB;have U:IntKind.i64.wrap (((i+j)/2:Nat):Int)=((P.length+1+k:Nat):Int):=by rw[K];exact wrap_i dB
   have V:IntKind.i64.wrap (((P.length+1+k:Nat):Int)+1)=((P.length+1+(k+1):Nat):Int):=wrap_1 dB;simp -implicitDefEqProofs (maxSteps:=3000000) only[L127_0,ac,aG,a,decide_true,aj,R,rK,T,bp_shr (show(0:Int)<=1 by decide),half,rL,U,L,M,x1,O,zS];refine evPc rfl λw1 F=>?_;have m:ad [g] W w1:=(B.trans ((ad.refl _ _).drew)).trans (F.mono λ_ h _=>by simp at h);have o:=d.drew.aF F;by_cases t:cmpV y x<0
   ·simp -implicitDefEqProofs (maxSteps:=3000000) only[ac,aG,t,decide_true,V,zS];exact l_bs1 b r f (k+1) q _ j w1 dB dB z rfl H o m (.inr ⟨y,s,(qx (r y l)).1 t⟩) D next
   ·simp -implicitDefEqProofs (maxSteps:=3000000) only[ac,aG,t,decide_false,zS];exact l_bs1 b r f p k i _ w1 dB dB dB A rfl o m C (.inr ⟨y,s,by
     have Z:=r y l;have h2:¬y.1<x.1:=λh=>t ((qx Z).2 h);omega⟩) next
  ·have v:p=q:=dB;subst v;have a:¬(i:Int)<j:=dB;simp -implicitDefEqProofs (maxSteps:=3000000) only[L127_0,ac,aG,a,decide_false,zS];rw[A];exact next p w z d B C D
theorem l_bub1(f:n<=1000000){x:dP}:∀(R D:List dP) (w:World) (i k:Nat),i=P.length+D.length+R.length+1->k=P.length+D.length->Rw base g n c w (P++D++x::(R++S))->ad [g] W w->
  (∀ w',Rw base g n c w' (P++D++R++x::S)->ad [g] W w'->Q (.tuple #[]) w')->P127_3 (hZ g n c) (bN i) (bN k) w Q
 | [],D,w,i,k,j,A,a,l,next=>by
  apply L127_3_ok;have m:=a.len;simp only[cq,du,cY]at m j;have o:IntKind.i64.wrap ((i:Int)-1)=((i-1:Nat):Int):=by rw[ap dB dB];omega
  have B:¬(k:Int)<((i-1:Nat):Int):=dB;simp -implicitDefEqProofs (maxSteps:=3000000) only[L127_3,ac,aH,o,aG,B,decide_false,zS];exact next w (by simpa using a) l
 |r::R,D,w,i,k,j,A,a,l,next=>by
  apply L127_3_ok;have m:=a.len;simp only[cq,du]at m j;have o:IntKind.i64.wrap ((i:Int)-1)=((i-1:Nat):Int):=by rw[ap dB dB];omega
  have p:(k:Int)<((i-1:Nat):Int):=dB;have C:P++D++x::(r::R++S)=(P++D)++x::([]++r::(R++S)):=by simp
  rw[C]at a;obtain⟨q,s⟩:=a.drew.at;have b:=a;rw[mid2]at b;obtain⟨t,u⟩:=b.drew.at;have d:(P++D).length=k:=by rw[cq];omega
  have E:(P++D++x:: []).length=k+1:=by rw[cq,d];rfl
  rw[d]at q s;rw[E]at t u;have F:IntKind.i64.wrap ((k:Int)+1)=((k+1:Nat):Int):=wrap_1 dB;simp -implicitDefEqProofs (maxSteps:=3000000) only[L127_3,ac,aH,o,aG,p,decide_true,aj,F,q,t,s,u,zS];obtain⟨w1,v,y,G⟩:=a.drew.set r;rw[d]at v;rw[v];rw[mid2]at y;obtain⟨w2,z,H,I⟩:=y.set x;have J:(P++D++r:: []).length=k+1:=by rw[cq,d];rfl
  rw[J]at z;rw[z];have K:P++(D++ [r])++x::(R++S)=P++D++r:: []++x::(R++S):=by simp[cJ]
  have L:Rw base g n c w2 (P++(D++ [r])++x::(R++S)):=by rw[K];exact H
  refine l_bub1 f R (D++ [r]) w2 i (k+1) (by simp only[cq,du,cY];omega) (by simp only[cq,du,cY];omega) L ((l.trans ((ad.refl _ _).drew)).trans (G.trans I)) λw' M O=>next w' ?_ O
  have e:P++D++r::R++x::S=P++(D++ [r])++R++x::S:=by simp[cJ]
  rw[e];exact M
theorem l_bs2(b:n<=1000000){y:dP}(t:∀x∈X,x.1≠y.1):∀(f p q i j:Nat) (w:World),q-p<=f->p<=q->q<=X.length->i=P.length+p->j=P.length+q->Rw base g n c w (P++X++ [y]++S)->ad [g] W w->LoB X p y.1->HiB X q y.1->
  (∀ (k:Nat) (w':World),k<=X.length->Rw base g n c w' (P++X++ [y]++S)->ad [g] W w'->LoB X k y.1->HiB X k y.1->P127_4 (hZ g n c) (bN ((P.length+k:Nat):Int)) (bN ((P.length+X.length:Nat):Int)) w' Q)->
  P127_1 (hZ g n c) (bN ((P.length+X.length:Nat):Int)) s6 (bN i) (bN j) w Q
 |f,p,q,i,j,w,u,H,A,B,I,d,C,D,E,next=>by
  apply L127_1_ok;have J:=d.len;simp only[cq,du,cY]at J;by_cases K:p<q
  ·match f,u with
   |0,u=>omega
   |f+1,u=>
   have a:(i:Int)<j:=dB;obtain⟨k,L⟩:∃k,(i+j)/2=P.length+k:=⟨(i+j)/2-P.length,dB⟩
   have hk:p<=k/\k<q:=dB;obtain⟨x,r⟩:∃x,X[k]? =some x:=⟨_,bX dB⟩
   have v:=cD r;have gx:=get_x (P:=P) (Y:= [y]) (S:=S) r;have F:=get_y (P:=P) (X:=X) (Y:= [y]) (S:=S) (k:=0) (e:=y) rfl;rw[Nat.add_zero]at F;obtain⟨M,O⟩:=d.drew.ix F;obtain⟨x1,R⟩:=d.drew.ix gx;have T:IntKind.i64.wrap ((i:Int)+(j:Int))=((i+j:Nat):Int):=rV dB;have U:=wrap_h (x:=i+j) dB;have V:IntKind.i64.wrap (((i+j)/2:Nat):Int)=((P.length+k:Nat):Int):=by rw[L];exact wrap_i dB
   have Z:IntKind.i64.wrap (((P.length+k:Nat):Int)+1)=((P.length+(k+1):Nat):Int):=wrap_1 dB;simp -implicitDefEqProofs (maxSteps:=3000000) only[L127_1,ac,aG,a,decide_true,aj,T,rK,U,bp_shr (show(0:Int)<=1 by decide),half,rL,V,M,O,x1,R,zS];refine evPc rfl λw1 G=>?_;have l:ad [g] W w1:=(C.trans ((ad.refl _ _).drew)).trans (G.mono λ_ h _=>by simp at h);have m:=d.drew.aF G;have o:y.1≠x.1:=λh=>t x v h.symm;by_cases s:cmpV y x<0
   ·simp -implicitDefEqProofs (maxSteps:=3000000) only[ac,aG,s,decide_true,zS];exact l_bs2 b t f p k i _ w1 dB dB dB B rfl m l D (.inr ⟨x,r,(qx o).1 s⟩) next
   ·simp -implicitDefEqProofs (maxSteps:=3000000) only[ac,aG,s,decide_false,Z,zS];exact l_bs2 b t f (k+1) q _ j w1 dB dB A rfl I m l (.inr ⟨x,r,by
     have h2:¬y.1<x.1:=λh=>s ((qx o).2 h);show x.1<y.1;omega⟩) E next
  ·have z:p=q:=dB;subst z;have a:¬(i:Int)<j:=dB;simp -implicitDefEqProofs (maxSteps:=3000000) only[L127_1,ac,aG,a,decide_false,zS];rw[B];exact next p w A d C D E
theorem l_bub2(d:n<=1000000){y:dP}{U:List dP}:∀(R D:List dP) (w:World) (i k:Nat),i=U.length->k=U.length+R.length->Rw base g n c w (U++R.reverse++y::(D++S))->ad [g] W w->
  (∀ w',Rw base g n c w' (U++y::(R.reverse++D++S))->ad [g] W w'->Q (.tuple #[]) w')->P127_4 (hZ g n c) (bN i) (bN k) w Q
 | [],D,w,i,k,o,f,b,j,next=>by
  apply L127_4_ok;rw[cY]at f;have A:¬(k:Int)>i:=dB;simp -implicitDefEqProofs (maxSteps:=3000000) only[L127_4,ac,fS,A,decide_false,zS];exact next w (by simpa using b) j
 |r::R,D,w,i,k,o,f,b,j,next=>by
  apply L127_4_ok;have B:=b.len;simp only[cq,du,List.length_reverse]at B f;have l:(k:Int)>i:=dB;have C:U++(r::R).reverse++y::(D++S)=(U++R.reverse)++r::([]++y::(D++S)):=by simp
  rw[C]at b;obtain⟨p,q⟩:=b.drew.at;have a:=b;rw[mid2]at a;obtain⟨s,t⟩:=a.drew.at;have m:(U++R.reverse).length=k-1:=by rw[cq,List.length_reverse];omega
  have u:(U++R.reverse++r:: []).length=k:=by rw[cq,m];show k-1+1=k;omega
  rw[m]at p q;rw[u]at s t;have E:IntKind.i64.wrap ((k:Int)-1)=((k-1:Nat):Int):=by rw[ap dB dB];omega
  simp -implicitDefEqProofs (maxSteps:=3000000) only[L127_4,ac,aH,E,fS,l,decide_true,p,s,q,t,zS];obtain⟨w1,v,x,F⟩:=a.drew.set r;rw[u]at v;rw[v];have G:U++R.reverse++r:: []++r::(D++S)=U++R.reverse++r::(r::(D++S)):=by simp
  rw[G]at x;obtain⟨w2,z,H,I⟩:=x.set y;rw[m]at z;rw[z];refine l_bub2 d R (r::D) w2 i (k-1) o dB H ((j.trans ((ad.refl _ _).drew)).trans (F.trans I)) λw' J K=>next w' ?_ K
  have e:U++y::((r::R).reverse++D++S)=U++y::(R.reverse++r::D++S):=by simp[cJ]
  rw[e];exact J
end
section
variable{W w w':World}{base n c g:Nat}{Q:Value->World->Prop}{P S U V M X Y Z:List dP}{e:dP}
def B3lo(Z:List dP)(nn a s:Nat):Prop:=s=a\/∃x y:dP,Z[s-1]? =some x/\Z[nn-s]? =some y/\x.1<y.1
def B3hi(Z:List dP)(nn r0 r:Nat):Prop:=r=r0\/∃x y:dP,Z[r]? =some x/\Z[nn-1-r]? =some y/\y.1<x.1
theorem l_bs3(i:n<=1000000){a m b j nn l r0:Nat}(o:nn<=2000000/\1<=nn)(F:r0<nn/\r0<=1000000)(d:∀k,l<=k->k<r0->∃x y:dP,Z[k]? =some x/\Z[nn-1-k]? =some y/\y.1≠x.1):∀(f s r:Nat) (w:World),r-s<=f->l<=s->s<=r->r<=r0->Rw base g n c w Z->ad [g] W w->B3lo Z nn l s->B3hi Z nn r0 r->
  (∀ (s:Nat) (w':World),l<=s->s<=r0->Rw base g n c w' Z->ad [g] W w'->B3lo Z nn l s->B3hi Z nn r0 s->P127_5 (hZ g n c) (bN a) (bN m) (bN b) s6 (bN j) (bN nn) (bN s) (bN s) (bN ((nn-1:Nat):Int)) w' Q)->
  P127_5 (hZ g n c) (bN a) (bN m) (bN b) s6 (bN j) (bN nn) (bN s) (bN r) (bN ((nn-1:Nat):Int)) w Q
 |f,s,r,w,A,G,J,p,v,H,B,C,next=>by
  by_cases K:s<r
  ·match f,A with
   |0,A=>omega
   |f+1,A=>
   apply L127_5_ok;have D:(s:Int)<r:=dB;obtain⟨k,L⟩:∃k,k=(s+r)/2:=⟨_,rfl⟩
   have X:s<=k/\k<r:=dB;obtain⟨x,y,gx,E,q⟩:=d k dB dB;obtain⟨M,O⟩:=v.drew.ix E;obtain⟨x1,P⟩:=v.drew.ix gx;have R:IntKind.i64.wrap ((s:Int)+(r:Int))=((s+r:Nat):Int):=rV dB;have S:=wrap_h (x:=s+r) dB;have T:IntKind.i64.wrap (((s+r)/2:Nat):Int)=((k:Nat):Int):=by rw[<- L];exact wrap_i dB
   have U:IntKind.i64.wrap (((k:Nat):Int)+1)=((k+1:Nat):Int):=wrap_1 dB;have V:IntKind.i64.wrap (((nn-1:Nat):Int)-(k:Int))=((nn-1-k:Nat):Int):=nS dB dB;simp -implicitDefEqProofs (maxSteps:=3000000) only[L127_5,ac,aG,D,decide_true,aj,aH,R,rK,S,bp_shr (show(0:Int)<=1 by decide),half,rL,T,V,M,O,x1,P,zS];refine evPc rfl λw1 I=>?_;have t:ad [g] W w1:=(H.trans ((ad.refl _ _).drew)).trans (I.mono λ_ h _=>by simp at h);have u:=v.drew.aF I;by_cases z:cmpV y x<0
   ·simp -implicitDefEqProofs (maxSteps:=3000000) only[ac,aG,z,decide_true,zS];exact l_bs3 i o F d f s k w1 dB G dB dB u t B (.inr ⟨x,y,gx,E,(qx q).1 z⟩) next
   ·simp -implicitDefEqProofs (maxSteps:=3000000) only[ac,aG,z,decide_false,U,zS];refine l_bs3 i o F d f (k+1) r w1 dB dB dB p u t (.inr ⟨x,y,gx,?_,?_⟩) C next
    ·rw[show nn-(k+1)=nn-1-k by omega];exact E
    ·have Y:¬y.1<x.1:=λh=>z ((qx q).2 h);clear B C next d
     omega
  ·have e:s=r:=dB;subst e;exact next s w G p v H B C
theorem x_get{k:Nat}(h:(P++X++Y++S)[P.length+k]? =some e)(a:k<X.length):X[k]? =some e:=by
 have b:=get_x (P:=P) (Y:=Y) (S:=S) (bX a);rw[h]at b;rw[bX a,<-Option.some.inj b]
theorem y_get{k:Nat}(h:(P++X++Y++S)[P.length+X.length+k]? =some e)(a:k<Y.length):Y[k]? =some e:=by
 have b:=get_y (P:=P) (X:=X) (S:=S) (bX a);rw[h]at b;rw[bX a,<-Option.some.inj b]
def MgQ(base g n c:Nat)(w:World)(P X Y S:List dP)(w':World):Prop:=∃Z,sO Z/\Z.Perm (X++Y)/\Rw base g n c w' (P++Z++S)/\ad [g] w w'
theorem asc_split{L:List dP}(h:sO L)(k:Nat):∀x∈L.take k,∀y∈L.drop k,x.1<y.1:=by
 have:sO (L.take k++L.drop k):=by rw[dg];exact h
 exact(List.pairwise_append.1 this).2.2
theorem qy(l:n<=1000000):∀(N:Nat) (P X Y S:List dP) (w:World) (a m b:Nat),X.length+Y.length<=N->X≠ []->Y≠ []->sO X->sO Y->(∀ x∈X,∀y∈Y,x.1≠y.1)->a=P.length->m=P.length+X.length->b=P.length+X.length+Y.length->Rw base g n c w (P++X++Y++S)->
  aa prog 127 [hZ g n c,bN a,bN m,bN b,s6] w λ_ w'=>MgQ base g n c w P X Y S w'
 |0,P,X,Y,S,w,a,m,b,hN,hX,hY,_,_,_,_,_,_,_=>by
  have:=List.length_pos_iff.2 hX;omega
 |N+1,P,X,Y,S,w,a,m,b,hN,hX,hY,z,A,hd,ea,em,eb,hR=>by
  apply F127_ok;have hn:=hR.len;simp only[cq]at hn;have C:=List.length_pos_iff.2 hX;have D:=List.length_pos_iff.2 hY;have c1:IntKind.i64.wrap ((m:Int)-(a:Int))=((m-a:Nat):Int):=nS dB dB;have c2:IntKind.i64.wrap ((b:Int)-(m:Int))=((b-m:Nat):Int):=nS dB dB;by_cases h1:m-a=1
  . -- one ahead of a8
   obtain⟨x,rfl⟩:∃x,X= [x]:=by
    match X,hX,(show X.length=1 by omega)with
    | [x],_,_=>exact⟨x,rfl⟩
   rw[List.length_singleton]at em eb;have q:(((m-a:Nat):Int)==1)=true:=by rw[h1];rfl
   simp -implicitDefEqProofs (maxSteps:=3000000) only[F127,ac,aH,c1,q,zS];have K:∀y∈Y,y.1≠x.1:=λy D h=>hd x (by simp) y D h.symm;rw[ea];refine l_bs1 (W:=w) l K Y.length 0 Y.length m b w dB dB (cy _) dB dB hR (ad.refl _ _) (.inl rfl) (.inl (cy _)) λk w1 hk L M O E=>?_;have hl:=asc_lo A O;have hh:=asc_hi A E;have lt:(Y.take k).length=k:=by rw[dt];omega
   have Q:P++ [x]++Y++S=P++ []++x::(Y.take k++(Y.drop k++S)):=by
    rw[<- cJ (Y.take k),dg];simp
   rw[Q]at L;refine l_bub1 (W:=w) (S:=Y.drop k++S) l (Y.take k) [] w1 (P.length+1+k) P.length (by rw[cY];omega) (by rw[cY];omega) L M λw2 F G=>?_;refine⟨Y.take k++x::Y.drop k,asc_app (pO A k) (List.pairwise_cons.2 ⟨hh,pP A k⟩) (λu hu v hv=>?_),?_,?_,G⟩
   ·have R:=hl u hu;rcases cV.1 hv with rfl|hv
    ·exact R
    ·have:=hh v hv;omega
   ·refine List.perm_middle.trans ?_;rw[dg];exact .refl _
   ·have:P++(Y.take k++x::Y.drop k)++S=P++ []++Y.take k++x::(Y.drop k++S):=by simp[cJ]
    rw[this];exact F
  have q1:(((m-a:Nat):Int)==1)=false:=cH dB;by_cases h2:b-m=1
  . -- a8 ahead of one
   obtain⟨y,rfl⟩:∃y,Y= [y]:=by
    match Y,hY,(show Y.length=1 by omega)with
    | [y],_,_=>exact⟨y,rfl⟩
   have q:(((b-m:Nat):Int)==1)=true:=by rw[h2];rfl
   simp -implicitDefEqProofs (maxSteps:=3000000) only[F127,ac,aH,c1,c2,q1,q,zS];have K:∀x∈X,x.1≠y.1:=λx C h=>hd x C y (by simp) h;rw[em];refine l_bs2 (W:=w) l K X.length 0 X.length a (P.length+X.length) w dB dB (cy _) dB rfl hR (ad.refl _ _) (.inl rfl) (.inl (cy _)) λk w1 hk L M O E=>?_;have hl:=asc_lo z O;have hh:=asc_hi z E;have lt:(X.take k).length=k:=by rw[dt];omega
   have ld:(X.drop k).length=X.length-k:=List.length_drop ..;have Q:P++X++ [y]++S=(P++X.take k)++(X.drop k).reverse.reverse++y::([]++S):=by
    rw[List.reverse_reverse,app_td P];simp
   rw[Q]at L;refine l_bub2 (W:=w) l (X.drop k).reverse [] w1 (P.length+k) (P.length+X.length) (by rw[cq];omega) (by rw[cq,List.length_reverse];omega) L M λw2 F G=>?_;rw[List.reverse_reverse]at F;refine⟨X.take k++y::X.drop k,asc_app (pO z k) (List.pairwise_cons.2 ⟨hh,pP z k⟩) (λu hu v hv=>?_),?_,?_,G⟩
   ·have R:=hl u hu;rcases cV.1 hv with rfl|hv
    ·exact R
    ·have:=hh v hv;omega
   ·refine List.perm_middle.trans ?_;rw[dg];exact(List.perm_append_comm (l₁:=X) (l₂:= [y])).symm
   ·have:P++(X.take k++y::X.drop k)++S=P++X.take k++y::(X.drop k++ []++S):=by simp[cJ]
    rw[this];exact F
  have q2:(((b-m:Nat):Int)==1)=false:=cH dB;obtain⟨d,a9⟩:∃d,d=(a+b)/2:=⟨_,rfl⟩
  have c3:IntKind.i64.wrap ((a:Int)+(b:Int))=((a+b:Nat):Int):=rV dB;have c4:=wrap_h (x:=a+b) dB;have c5:IntKind.i64.wrap (((a+b)/2:Nat):Int)=(d:Int):=by rw[<- a9];exact wrap_i dB
  have c6:IntKind.i64.wrap ((d:Int)+(m:Int))=((d+m:Nat):Int):=rV dB;have c8:IntKind.i64.wrap (((d+m:Nat):Int)-1)=((d+m-1:Nat):Int):=by rw[ap dB dB];omega
  have J:∀(Z r0:Nat),(m>d/\Z=d+m-b/\r0=d)\/(m<=d/\Z=a/\r0=m)->P127_5 (hZ g n c) (bN a) (bN m) (bN b) s6 (bN d) (bN ((d+m:Nat):Int)) (bN Z) (bN r0) (bN ((d+m-1:Nat):Int)) w λ_ w'=>MgQ base g n c w P X Y S w':=by
   intro Z r0 b1;have b2:∀k,Z<=k->k<r0->∃x y:dP,(P++X++Y++S)[k]? =some x/\(P++X++Y++S)[d+m-1-k]? =some y/\y.1≠x.1:=λk h3 h4=>by
    obtain⟨i,ei⟩:∃i,k=P.length+i:=⟨k-P.length,dB⟩
    obtain⟨j,ej⟩:∃j,d+m-1-k=P.length+X.length+j:=⟨d+m-1-k-(P.length+X.length),dB⟩
    have E:i<X.length:=dB;have hj:j<Y.length:=dB;refine⟨X[i],Y[j],by rw[ei];exact get_x (bX E),by rw[ej];exact get_y (bX hj),λh=>hd _ (List.getElem_mem E) _ (List.getElem_mem hj) h.symm⟩
   refine l_bs3 (W:=w) l dB dB b2 (r0-Z) Z r0 w (cy _) (cy _) dB (cy _) hR (ad.refl _ _) (.inl rfl) (.inl rfl) λs w1 d2 c9 L M O E=>?_;clear b2;apply L127_5_ok;obtain⟨f,b3⟩:∃f,f=d+m-s:=⟨_,rfl⟩
   have hz:¬(s:Int)<s:=dB;have d1:IntKind.i64.wrap (((d+m:Nat):Int)-(s:Int))=(f:Int):=by rw[b3];exact nS dB dB
   obtain⟨i,ei⟩:∃i,s=P.length+i:=⟨s-P.length,dB⟩
   obtain⟨j,ej⟩:∃j,f=P.length+X.length+j:=⟨f-(P.length+X.length),dB⟩
   have d3:i<=X.length:=dB;have d4:j<=Y.length:=dB;have d5:d=P.length+i+j:=dB;have a3:(X.take i).length=i:=by rw[dt];omega
   have H:(X.drop i).length=X.length-i:=List.length_drop ..;have B:(Y.take j).length=j:=by rw[dt];omega
   have b4:(Y.drop j).length=Y.length-j:=List.length_drop ..;have xy:∀x∈X.take i,∀y∈Y.drop j,x.1<y.1:=by
    rcases O with h|⟨x,y,gx,gy,a4⟩
    ·rcases b1 with⟨_,h3,_⟩|⟨_,h3,_⟩
     ·have:Y.length<=j:=dB;rw[dk this];intro x _ y D;simp at D
     ·have:i=0:=dB;rw[this];intro x C;simp at C
    ·by_cases h0:i=0
     ·rw[h0];intro x C;simp at C
     by_cases b7:Y.length<=j
     ·rw[dk b7];intro x _ y D;simp at D
     have a5:X[i-1]? =some x:=x_get (P:=P) (Y:=Y) (S:=S) (by rw[show P.length+(i-1)=s-1 by omega];exact gx) dB;have a6:Y[j]? =some y:=y_get (P:=P) (X:=X) (S:=S) (by rw[<- ej,b3];exact gy) dB;intro u hu v hv;have h3:=asc_lo z (k:=i) (T:=y.1) (.inr ⟨x,a5,a4⟩) u hu;have h4:=asc_hi A (k:=j) (T:=y.1-1) (.inr ⟨y,a6,by show y.1-1<y.1;exact Int.sub_lt_self _ dC⟩) v hv;clear E;omega
   have yx:∀y∈Y.take j,∀x∈X.drop i,y.1<x.1:=by
    rcases E with h|⟨x,y,gx,gy,a4⟩
    ·rcases b1 with⟨_,_,h3⟩|⟨_,_,h3⟩
     ·have:j=0:=dB;rw[this];intro y D;simp at D
     ·have:X.length<=i:=dB;rw[dk this];intro y _ x C;simp at C
    ·by_cases h0:j=0
     ·rw[h0];intro x C;simp at C
     by_cases b8:X.length<=i
     ·rw[dk b8];intro x _ y D;simp at D
     have a5:X[i]? =some x:=x_get (P:=P) (Y:=Y) (S:=S) (by rw[<- ei];exact gx) dB;have a6:Y[j-1]? =some y:=y_get (P:=P) (X:=X) (S:=S) (by rw[show P.length+X.length+(j-1)=d+m-1-s by omega];exact gy) dB;intro u hu v hv;have h3:=asc_lo A (k:=j) (T:=x.1) (.inr ⟨y,a6,a4⟩) u hu;have h4:=asc_hi z (k:=i) (T:=x.1-1) (.inr ⟨x,a5,by show x.1-1<x.1;exact Int.sub_lt_self _ dC⟩) v hv;clear O;omega
   clear O E;have xx:=asc_split z i;have yy:=asc_split A j;have mX:∀u,u∈X.take i->u∈X:=λu h=>List.mem_of_mem_take h;have dX:∀u,u∈X.drop i->u∈X:=λu h=>List.mem_of_mem_drop h;have mY:∀u,u∈Y.take j->u∈Y:=λu h=>List.mem_of_mem_take h;have dY:∀u,u∈Y.drop j->u∈Y:=λu h=>List.mem_of_mem_drop h;have o:∀(t:List dP) (I:World),sO t->t.Perm (X.take i++Y.take j)->Rw base g n c I (P++t++X.drop i++Y.drop j++S)->ad [g] w I->P127_7 (hZ g n c) (bN b) s6 (bN d) (bN f) I λ_ w'=>MgQ base g n c w P X Y S w':=by
    intro t I a1 p1 r3 g3;apply L127_7_ok;have lZ:t.length=i+j:=by rw[p1.length_eq,cq,a3,B]
    have fin:∀(Z2:List dP) (w4:World),sO Z2->Z2.Perm (X.drop i++Y.drop j)->Rw base g n c w4 (P++t++Z2++S)->ad [g] w w4->MgQ base g n c w P X Y S w4:=λZ2 w4 a2 p2 r4 g4=>by
     refine⟨t++Z2,asc_app a1 a2 λu hu v hv=>?_,?_,by rw[<- cJ P];exact r4,g4⟩
     ·rcases List.mem_append.1 (p1.mem_iff.1 hu)with hu|hu<;>rcases List.mem_append.1 (p2.mem_iff.1 hv)with hv|hv
      ·exact xx u hu v hv
      ·exact xy u hu v hv
      ·exact yx u hu v hv
      ·exact yy u hu v hv
     ·refine(p1.append p2).trans ?_;have e:X++Y=(X.take i++X.drop i)++(Y.take j++Y.drop j):=by rw[dg,dg]
      rw[e];have:=(List.perm_append_comm (l₁:=Y.take j) (l₂:=X.drop i)).append_left (X.take i) |>.append_right (Y.drop j)
      simp only[cJ]at this⊢;exact this
    by_cases b5:d<f
    ·by_cases b6:f<b
     ·have k1:(d:Int)<f:=dB;have k2:(f:Int)<b:=dB;simp -implicitDefEqProofs (maxSteps:=3000000) only[L127_7,ac,aG,k1,k2,decide_true,zS];refine(qy l N (P++t) (X.drop i) (Y.drop j) S I d f b dB (λh=>by rw[h]at H;simp at H;omega) (λh=>by rw[h]at b4;simp at b4;omega) (pP z i) (pP A j) (λu hu v hv=>hd u (dX u hu) v (dY v hv)) (by rw[cq];omega) (by rw[cq];omega) (by rw[cq];omega) r3).mono ?_;rintro _ w4 ⟨Z2,a2,p2,r4,g4⟩;exact fin Z2 w4 a2 p2 r4 (g3.trans g4)
     ·have k1:(d:Int)<f:=dB;have k2:¬(f:Int)<b:=dB;simp -implicitDefEqProofs (maxSteps:=3000000) only[L127_7,ac,aG,k1,k2,decide_true,decide_false,zS];have:Y.drop j= []:=dk dB;refine fin (X.drop i++Y.drop j) I ?_ (.refl _) (by rw[<- cJ];exact r3) g3;rw[this,List.append_nil];exact pP z i
    ·have k1:¬(d:Int)<f:=dB;simp -implicitDefEqProofs (maxSteps:=3000000) only[L127_7,ac,aG,k1,decide_false,zS];have:X.drop i= []:=dk dB;refine fin (X.drop i++Y.drop j) I ?_ (.refl _) (by rw[<- cJ];exact r3) g3;rw[this,List.nil_append];exact pP A j
   have p:∀w2,Rw base g n c w2 (P++X.take i++Y.take j++(X.drop i++Y.drop j++S))->ad [g] w w2->P127_6 (hZ g n c) (bN a) (bN b) s6 (bN d) (bN s) (bN f) w2 λ_ w'=>MgQ base g n c w P X Y S w':=by
    intro w2 F G;apply L127_6_ok;have a7:∀t:List dP,P++t++(X.drop i++Y.drop j++S)=P++t++X.drop i++Y.drop j++S:=λt=>by simp[cJ]
    by_cases b5:a<s
    ·by_cases b6:s<d
     ·have k1:(a:Int)<s:=dB;have k2:(s:Int)<d:=dB;simp -implicitDefEqProofs (maxSteps:=3000000) only[L127_6,ac,aG,k1,k2,decide_true,zS];refine(qy l N P (X.take i) (Y.take j) (X.drop i++Y.drop j++S) w2 a s d dB (λh=>by rw[h]at a3;simp at a3;omega) (λh=>by rw[h]at B;simp at B;omega) (pO z i) (pO A j) (λu hu v hv=>hd u (mX u hu) v (mY v hv)) ea dB dB F).mono ?_;rintro _ I ⟨t,a1,p1,r3,g3⟩;rw[a7]at r3;exact o t I a1 p1 r3 (G.trans g3)
     ·have k1:(a:Int)<s:=dB;have k2:¬(s:Int)<d:=dB;simp -implicitDefEqProofs (maxSteps:=3000000) only[L127_6,ac,aG,k1,k2,decide_true,decide_false,zS];have:Y.take j= []:=by rw[show j=0 by omega];rfl
      refine o (X.take i++Y.take j) w2 ?_ (.refl _) (by rw[<- a7,<-cJ P];exact F) G;rw[this,List.append_nil];exact pO z i
    ·have k1:¬(a:Int)<s:=dB;simp -implicitDefEqProofs (maxSteps:=3000000) only[L127_6,ac,aG,k1,decide_false,zS];have:X.take i= []:=by rw[show i=0 by omega];rfl
     refine o (X.take i++Y.take j) w2 ?_ (.refl _) (by rw[<- a7,<-cJ P];exact F) G;rw[this,List.nil_append];exact pO A j
   have r:Rw base g n c w1 (P++X.take i++X.drop i++Y.take j++(Y.drop j++S)):=by
    have:P++X.take i++X.drop i++Y.take j++(Y.drop j++S)=P++X++Y++S:=by rw[app_td P,cJ (P++X),<-cJ (Y.take j),dg,<-cJ]
    rw[this];exact L
   by_cases b5:s<m
   ·by_cases b6:m<f
    ·have k1:(s:Int)<m:=dB;have k2:(m:Int)<f:=dB;simp -implicitDefEqProofs (maxSteps:=3000000) only[L127_5,ac,aG,hz,decide_false,aH,d1,k1,k2,decide_true,zS];refine(c_rotate l (P:=P++X.take i) (U:=X.drop i) (V:=Y.take j) (S:=Y.drop j++S) (λh=>by rw[h]at H;simp at H;omega) (λh=>by rw[h]at B;simp at B;omega) (by rw[cq];omega) (by rw[cq];omega) (by rw[cq];omega) r).mono ?_;rintro _ w2 ⟨F,G⟩;refine p w2 ?_ (M.trans G);have:P++X.take i++Y.take j++(X.drop i++Y.drop j++S)=P++X.take i++Y.take j++X.drop i++(Y.drop j++S):=by simp[cJ]
     rw[this];exact F
    ·have k1:(s:Int)<m:=dB;have k2:¬(m:Int)<f:=dB;simp -implicitDefEqProofs (maxSteps:=3000000) only[L127_5,ac,aG,hz,decide_false,aH,d1,k1,k2,decide_true,zS];refine p w1 ?_ M;have Q:Y.take j= []:=by rw[show j=0 by omega];rfl
     rw[Q]at r⊢;simp only[cJ,List.nil_append]at r⊢;exact r
   ·have k1:¬(s:Int)<m:=dB;simp -implicitDefEqProofs (maxSteps:=3000000) only[L127_5,ac,aG,hz,decide_false,aH,d1,k1,zS];refine p w1 ?_ M;have Q:X.drop i= []:=dk dB;rw[Q]at r⊢;simp only[cJ,List.nil_append]at r⊢;exact r
  by_cases b9:m>d
  ·have k1:(m:Int)>d:=dB;have c7:IntKind.i64.wrap (((d+m:Nat):Int)-(b:Int))=((d+m-b:Nat):Int):=nS dB dB;simp -implicitDefEqProofs (maxSteps:=3000000) only[F127,ac,aH,aj,fS,c1,c2,q1,q2,c3,rK,c4,bp_shr (show(0:Int)<=1 by decide),half,rL,c5,c6,c7,k1,decide_true,zS];apply L127_2_ok;simp -implicitDefEqProofs (maxSteps:=3000000) only[L127_2,ac,aH,c8];exact J _ _ (.inl ⟨b9,rfl,rfl⟩)
  ·have k1:¬(m:Int)>d:=dB;simp -implicitDefEqProofs (maxSteps:=3000000) only[F127,ac,aH,aj,fS,c1,c2,q1,q2,c3,rK,c4,bp_shr (show(0:Int)<=1 by decide),half,rL,c5,c6,k1,decide_false,zS];apply L127_2_ok;simp -implicitDefEqProofs (maxSteps:=3000000) only[L127_2,ac,aH,c8];exact J _ _ (.inr ⟨dB,rfl,rfl⟩)
end
def Blk(z:Nat)(L:List dP):Prop:=∀k,sO ((L.drop (k*z)).take z)
theorem blk_app{z q:Nat}{P R:List dP}(a:P.length=q*z)(b:Blk z P)(c:Blk z R):Blk z (P++R):=λk=>by
 rcases dh k q with h|h
 ·have d:(k+1)*z<=q*z:=Nat.mul_le_mul_right z h;rw[Nat.add_mul,Nat.one_mul]at d;rw[List.drop_append_of_le_length dB,List.take_append_of_le_length (by rw[List.length_drop];omega)];exact b k
 ·obtain⟨j,rfl⟩:∃j,k=q+j:=⟨k-q,dB⟩
  have e:(P++R).drop ((q+j)*z)=R.drop (j*z):=by
   rw[Nat.add_mul,<-a,<-List.drop_drop,List.drop_left]
  rw[e];exact c j
theorem blk_drop{z q:Nat}{L:List dP}(h:Blk z L):Blk z (L.drop (q*z)):=λk=>by
 rw[List.drop_drop,<-Nat.add_mul];exact h (q+k)
theorem blk_one{z:Nat}{L:List dP}(b:0<z)(a:L.length<=z)(h:sO L):Blk z L:=λk=>by
 cases k with
 |zero=>rw[Nat.zero_mul,List.drop_zero,dA a];exact h
 |succ k=>
  have:L.drop ((k+1)*z)= []:=List.drop_eq_nil_of_le (by rw[Nat.add_mul];omega);rw[this,List.take_nil];exact List.Pairwise.nil
theorem dst_perm{L X:List dP}(h:L.Perm X)(b:Dst X):Dst L:=(h.pairwise_iff (λa e=>a e.symm)).2 b
theorem sortI_asc{M:List dP}(h:Dst M):sO (oI M)/\(oI M).Perm M:=by
 obtain⟨b,c⟩:=tP M [] List.Pairwise.nil h (λa d=>by simp at d);exact⟨List.pairwise_reverse.2 b,(List.reverse_perm _).trans c⟩
section
variable{W w w':World}{base n c g:Nat}{Q:Value->World->Prop}{P S U V M X Y Z:List dP}{e:dP}
theorem l_st2(B:n<=100000)(S:Dst X){z:Nat}(V:0<z)(C:z<n):∀(f:Nat) (P R:List dP) (q b:Nat) (w:World),R.length<=f->P.length=q*(2*z)->b=P.length+2*z->Blk (2*z) P->Blk z R->(P++R).Perm X->Rw base g n c w (P++R)->ad [g] W w->
  (∀ (Z:List dP) (w':World),Blk (2*z) Z->Z.Perm X->Rw base g n c w' Z->ad [g] W w'->P80_3 (hZ g n c) (bN n) s6 (bN z) w' Q)->
  P80_2 (hZ g n c) (bN n) s6 (bN z) (bN P.length) (bN b) w Q
 |f,P,R,q,b,w,D,t,Y,E,l,hp,u,F,next=>by
  have hn:=u.len;simp only[cq]at hn;have hd:Dst (P++R):=dst_perm hp S;have r:=(List.pairwise_append.1 hd).2.1;apply L80_2_ok;have G:IntKind.i64.wrap ((P.length:Int)+(z:Int))=((P.length+z:Nat):Int):=by rw[ap dB dB];omega
  have T:IntKind.i64.wrap (2*(z:Int))=((2*z:Nat):Int):=by rw[ap dB dB];omega
  by_cases hb:b<=n
  ·have a:(b:Int)<=n:=dB;match f,D with
   |0,D=>omega
   |f+1,D=>
   have d:(R.take z).length=z:=by rw[dt];omega
   have m:((R.drop z).take z).length=z:=by rw[dt,List.length_drop];omega
   have v:P++R=P++R.take z++(R.drop z).take z++R.drop (2*z):=by
    rw[cJ,cJ,show 2*z=z+z by omega,<-List.drop_drop,dg,dg]
   have c3:IntKind.i64.wrap ((b:Int)+((2*z:Nat):Int))=((b+2*z:Nat):Int):=by rw[ap dB dB];omega
   have s:sO (R.take z):=by have:=l 0;rwa[Nat.zero_mul,List.drop_zero]at this
   have H:sO ((R.drop z).take z):=by have:=l 1;rwa[Nat.one_mul]at this
   have e:∀x∈R.take z,∀y∈(R.drop z).take z,x.1≠y.1:=λx I y J=>by
    have K:Dst (R.take z++R.drop z):=by rw[dg];exact r
    exact(List.pairwise_append.1 K).2.2 x I y (List.mem_of_mem_take J)
   have i:R.take z≠ []:=λh=>by rw[h,cY]at d;omega
   have j:(R.drop z).take z≠ []:=λh=>by rw[h,cY]at m;omega
   simp only[L80_2,zS,a,aj,jB,G,T];refine(qy dB _ P (R.take z) ((R.drop z).take z) (R.drop (2*z)) w P.length (P.length+z) b (cy _) i j s H e rfl (by rw[d]) (by rw[d,m];omega) (by rw[<- v];exact u)).mono ?_;rintro _ w1 ⟨o,L,p,A,M⟩;simp only[zS,c3];have U:o.length=2*z:=by rw[p.length_eq,cq,d,m];omega
   have O:(P++o).length=P.length+2*z:=by rw[cq,U]
   have:=l_st2 B S V C f (P++o) (R.drop (2*z)) (q+1) (b+2*z) w1 (by rw[List.length_drop];omega) (by rw[O,Nat.add_mul,t,Nat.one_mul]) (by rw[O];omega)
    (blk_app t E (blk_one dB dB L)) (by have:=blk_drop (q:=2) l;exact this)
    (by refine List.Perm.trans ?_ hp;rw[v,cJ P (R.take z)];exact((p.append_left P).append_right _)) A (F.trans M) next
   rw[O,<-Y]at this;exact this
  ·have a:¬(b:Int)<=n:=dB;by_cases hm:P.length+z<n
   ·have k:((P.length+z:Nat):Int)<n:=dB;have d:(R.take z).length=z:=by rw[dt];omega
    have m:(R.drop z).length=R.length-z:=by rw[List.length_drop]
    have v:P++R=P++R.take z++R.drop z++ []:=by rw[List.append_nil,cJ,dg]
    have s:sO (R.take z):=by have:=l 0;rwa[Nat.zero_mul,List.drop_zero]at this
    have H:sO (R.drop z):=by have:=l 1;rwa[Nat.one_mul,dA dB]at this
    have e:∀x∈R.take z,∀y∈R.drop z,x.1≠y.1:=λx I y J=>by
     have K:Dst (R.take z++R.drop z):=by rw[dg];exact r
     exact(List.pairwise_append.1 K).2.2 x I y J
    have i:R.take z≠ []:=λh=>by rw[h,cY]at d;omega
    have j:R.drop z≠ []:=λh=>by rw[h,cY]at m;omega
    simp only[L80_2,zS,a,aj,jB,G,T,k];refine(qy dB _ P (R.take z) (R.drop z) [] w P.length (P.length+z) n (cy _) i j s H e rfl (by rw[d]) (by rw[d,m];omega) (by rw[<- v];exact u)).mono ?_;rintro _ w1 ⟨o,L,p,A,M⟩;rw[List.append_nil]at A;have U:o.length=R.length:=by rw[p.length_eq,dg]
    refine next (P++o) w1 (blk_app t E (blk_one dB dB L)) (List.Perm.trans ?_ hp) A (F.trans M)
    rw[dg]at p;exact p.append_left P
   ·have k:¬((P.length+z:Nat):Int)<n:=dB;have s:sO R:=by have:=l 0;rwa[Nat.zero_mul,List.drop_zero,dA dB]at this
    simp only[L80_2,zS,a,aj,G,k];exact next (P++R) w (blk_app t E (blk_one dB dB s)) hp u F
theorem l_st1(b:n<=100000)(o:Dst X):∀(f:Nat) (Z:List dP) (z:Nat) (w:World),n<=z+f->0<z->z<=200000->Blk z Z->Z.Perm X->Rw base g n c w Z->ad [g] W w->
  (∀ (Z:List dP) (w':World),sO Z->Z.Perm X->Rw base g n c w' Z->ad [g] W w'->Q (.tuple #[]) w')->
  P80_1 (hZ g n c) (bN n) s6 (bN z) w Q
 |f,Z,z,w,d,r,s,p,hp,e,q,next=>by
  have y:=e.len;apply L80_1_ok;by_cases h:z<n
  ·have a:(z:Int)<n:=dB;match f,d with
   |0,d=>omega
   |f+1,d=>
   have t:IntKind.i64.wrap (2*(z:Int))=((2*z:Nat):Int):=by rw[ap dB dB];omega
   have u:IntKind.i64.wrap ((z:Int)*2)=((2*z:Nat):Int):=by rw[ap dB dB];omega
   simp only[L80_1,zS,a,jB,t];refine l_st2 (W:=W) b o r h n [] Z 0 (2*z) w dB (by simp) (by simp) (λk=>by simp[sO]) p hp e q λv w2 i j l m=>?_;apply L80_3_ok;simp only[L80_3,zS,jB,u];exact l_st1 b o f v (2*z) w2 dB dB dB i j l m next
  ·have a:¬(z:Int)<n:=dB;simp only[L80_1,zS,a];have x:sO Z:=by have:=p 0;rwa[Nat.zero_mul,List.drop_zero,dA dB]at this
   exact next Z w x hp e q
theorem l_st0(j:n<=100000)(t:Dst X):∀(f:Nat) (P R:List dP) (q b:Nat) (w:World),R.length<=f->P.length=q*20->b=P.length+20->Blk 20 P->(P++R).Perm X->Rw base g n c w (P++R)->ad [g] W w->
  (∀ (Z:List dP) (w':World),Blk 20 Z->Z.Perm X->Rw base g n c w' Z->ad [g] W w'->P80_1 (hZ g n c) (bN n) s6 (bN 20) w' Q)->
  P80_0 (hZ g n c) (bN n) s6 (bN 20) (bN P.length) (bN b) w Q
 |f,P,R,q,b,w,k,u,v,x,hp,l,y,next=>by
  have z:=l.len;simp only[cq]at z;have B:Dst (P++R):=dst_perm hp t;have d:=(List.pairwise_append.1 B).2.1;apply L80_0_ok;by_cases hb:b<=n
  ·have a:(b:Int)<=n:=dB;match f,k with
   |0,k=>omega
   |f+1,k=>
   have m:(R.take 20).length=20:=by rw[dt];omega
   have A:P++R=P++R.take 20++R.drop 20:=by rw[cJ,dg]
   have C:IntKind.i64.wrap ((b:Int)+20)=((b+20:Nat):Int):=by rw[ap dB dB];omega
   obtain⟨o,p⟩:=sortI_asc (M:=R.take 20) (d.sublist (List.take_sublist _ _));simp only[L80_0,zS,a];have e:=c_insSort (n:=n) (c:=c) (g:=g) (base:=base) dB (P0:=P) (M:=R.take 20) (S:=R.drop 20) (w:=w) (by rw[m,List.length_drop];omega) (by rw[<- A];exact l);rw[m,<-v]at e;refine aa.mono e ?_;rintro _ w1 ⟨_,i,r⟩;simp only[zS,aj,C];have s:(P++oI (R.take 20)).length=P.length+20:=by rw[cq,sP,m]
   have:=l_st0 j t f (P++oI (R.take 20)) (R.drop 20) (q+1) (b+20) w1 (by rw[List.length_drop];omega) (by rw[s];omega) (by rw[s];omega) (blk_app u x (blk_one dB (by rw[sP];omega) o))
    (by refine List.Perm.trans ?_ hp;rw[A];exact(p.append_left P).append_right _) i (y.trans r) next
   rw[s,<-v]at this;exact this
  ·have a:¬(b:Int)<=n:=dB;obtain⟨o,p⟩:=sortI_asc (M:=R) d;simp only[L80_0,zS,a];have e:=c_insSort (n:=n) (c:=c) (g:=g) (base:=base) dB (P0:=P) (M:=R) (S:= []) (w:=w) (by simp;omega) (by rw[List.append_nil];exact l);rw[<- z]at e;refine aa.mono e ?_;rintro _ w1 ⟨_,i,r⟩;rw[List.append_nil]at i;exact next _ w1 (blk_app u x (blk_one dB (by rw[sP];omega) o)) ((p.append_left P).trans hp) i (y.trans r)
theorem c_SortStableN{X:List dP}{w:World}(a:X.length<=100000)(b:Dst X)(d:Rw base g X.length c w X):
  aa prog 45 [hZ g X.length c,s6] w λ_ w'=>Rw base g X.length c w' (oI X)/\ad [g] w w':=by
 apply F45_ok;simp only[F45,tH,ac]
 suffices h:aa prog 80 [hZ g X.length c,bN X.length,s6] w λv w'=>Rw base g X.length c w' (oI X)/\ad [g] w w' by
  refine h.mono ?_;rintro v w' h;exact h
 apply F80_ok;simp only[F80];refine l_st0 (W:=w) a b X.length [] X 0 20 w (cy _) rfl rfl (λk=>by simp[sO]) (by simp) (by simpa using d) (ad.refl _ _) λZ w1 e hp f i=>?_;refine l_st1 (W:=w) a b X.length Z 20 w1 dB dB dB e hp f i λp w2 j p2 l m=>?_;obtain⟨n,o⟩:=sortI_asc b;rw[tO n j (o.trans p2.symm)];exact⟨l,m⟩
end
def oK(l:List di)(i:Nat):List dP:=nQ (l.take i)
theorem rawTo_len(l:List di)(i:Nat):(oK l i).length<=2*l.length:=by
 have:=oH (l.take i) 0;have a:(l.take i).length<=l.length:=by simp;omega
 unfold oK nQ;omega
theorem bdp_pt(s i:Int):ai prog (Instr.build 58 #[(0,bN s),(1,bN i)])=some (.agg #[bN s,bN i,.bool false]):=bd_58_0_1
theorem bdp_bk(s i:Int)(b:Bool):ai prog (Instr.build 58 #[(0,bN s),(1,bN i),(2,.bool b)])=some (.agg #[bN s,bN i,.bool b]):=bd_58_0_1_2
section
variable{W:World}
theorem l_oSort{l:List di}(z:mayL l)(hl:l.length<=1000){A:Option Addr}{c:Nat}(J:fp W A (l.flatMap jS)):∀(d i:Nat) (v:Value) (w:World),w.ownsRow W.heap.size 58 3 v (oK l i).length ((oK l i).flatMap gR)->ad [] W w->i+d=l.length->
  P21_0 v (.slice A l.length c) (bN l.length) (bN i) w λv w'=>jT w' W.heap.size v (evs l)/\ad [] W w':=by
 intro d;induction d with
 |zero=>
  intro i v w e m hi;apply L21_0_ok;have:¬((i:Int)<l.length):=dB;simp -implicitDefEqProofs only[L21_0,zS,this];have H:oK l i=nQ l:=by rw[oK,dA dB]
  have Z:=rawTo_len l i;rcases e.2 with⟨rfl,h0⟩|⟨g,cap,K,rfl,M,x,a1,a2,a3,O⟩
  ·have B:nQ l= []:=by rw[<- H];exact List.eq_nil_of_length_eq_zero h0
   have y:evs l= []:=by rw[evs,B];rfl
   apply F45_ok;simp -implicitDefEqProofs only[F45,tH,ac];apply F80_ok;simp -implicitDefEqProofs only[F80];apply L80_0_ok;simp -implicitDefEqProofs only[L80_0,zS,show¬((20:Int)<=(0:Nat))from by decide];apply F126_ok;simp -implicitDefEqProofs only[F126,aj,ap (n:=(0:Int)+1) dB dB,zS];apply L126_0_ok;simp -implicitDefEqProofs only[L126_0,zS,show¬((0:Int)+1<(0:Nat))from by decide];apply L80_1_ok;simp -implicitDefEqProofs only[L80_1,zS,show¬((20:Int)<(0:Nat))from by decide];rw[y];exact⟨jT.nil w _,m⟩
  ·refine(c_SortStableN (c:=cap) (g:=g) (X:=oK l i) (base:=W.heap.size) dB (by rw[H];exact raw_dst z) e).mono ?_;rintro _ w2 ⟨ho,p⟩;rw[H,evs_eq z]at ho;refine⟨?_,⟨p.os.trans m.os,p.tape.trans m.tape,p.output.trans m.output,cU m.size p.size,λk a hn=>(p.block k (de a m.size) (by simp;omega)).trans (m.block k a hn)⟩⟩;have P:(nQ l).length=(evs l).length:=by rw[<- evs_eq z,sP]
   rw[H];exact jT.own ho P
 |succ d ih=>
  intro i v w e m hi;apply L21_0_ok;have Q:(i:Int)<l.length:=dB;have C:i<l.length:=dB;obtain⟨b,o,q1,q2⟩:=iQ (c:=c) (j:= .i64) (i:=i) (J.ao m.below) C;have sl:=rawTo_len l i;simp -implicitDefEqProofs only[L21_0,zS,Q,q1,q2.ld,qK];rw[st_39 (by rfl) (by rfl) (by rw[af,bU rfl];rfl) (by rw[af,bU rfl];rfl),af,bU rfl];simp -implicitDefEqProofs only[au];generalize r:put (w.alloc _) w.heap.size (iW l[i]) 39=w1;have D:ad [] w w1:=by rw[<- r];exact((ad.refl _ _).alloc _).put (.inr (cy _)) _ _
  have x:hp w1 w.heap.size=some (.cells (iW l[i]) 39):=by rw[<- r,bm,bU rfl,bU (by simp)]
  clear r;have R:∀k,v.ownBlock=some k->k≠w.heap.size:=λk a=>by
   rcases e.2 with⟨rfl,_⟩|⟨g,cap,K,rfl,M,S,_⟩
   ·cases a
   ·cases a;have:g<w.heap.size:=aD (o:=_) S;show g≠w.heap.size;omega
  have s:=bM e D λk a=>by simp
  have t:=m.trans D;generalize w.heap.size=g at*;have f9:an (hp w1 g) (0+9)=some (bN l[i].pt):=sp_c x 9;have f:oK l (i+1)=oK l i++nP i l[i]:=rawEv_succ C;have last:∀(v:Value) (w':World),ad [] W w'->w'.ownsRow W.heap.size 58 3 v (oK l (i+1)).length ((oK l (i+1)).flatMap gR)->P21_2 v (.slice A l.length c) (bN l.length) (bN i) w' λv w'=>jT w' W.heap.size v (evs l)/\ad [] W w':=by
   intro v w' E e;apply L21_2_ok;simp -implicitDefEqProofs only[L21_2,aj,ap (n:=(i:Int)+1) dB dB,zS];exact ih (i+1) v w' e E dB
  have F:∀(v:Value) (w':World) (L:List dP),ad [] W w'->hp w' g=some (.cells (iW l[i]) 39)->w'.ownsRow W.heap.size 58 3 v L.length (L.flatMap gR)->L.length<=4000->L++(if 0<=l[i].bk then [(l[i].bk,(i:Int),true)]else [])=oK l (i+1)->
    P21_1 v (bN i) (bS g) (.slice A l.length c) (bN l.length) (bN i) w' λv w'=>jT w' W.heap.size v (evs l)/\ad [] W w':=by
   intro v w' L E x e hL y;apply L21_1_ok;have G:an (hp w' g) (0+10)=some (bN l[i].bk):=sp_c x 10;simp -implicitDefEqProofs only[L21_1,sy,ag,G,zS,mM];by_cases hb:0<=l[i].bk
   ·rw[bU hb]at y;simp -implicitDefEqProofs only[zS,hb,sy,ag,G,bdp_bk];refine ps_55 (λu T=>evC_one (l[i].bk,(i:Int),true) u T) e dB E.size λU w2 V I _=>?_;have p:ad [] W w2:=E.grown I λk a=> .inr (oS e a);refine last U w2 p ?_;rw[<- y,cq,List.flatMap_append];simpa [gR]using V
   ·rw[bV hb,List.append_nil]at y;simp -implicitDefEqProofs only[zS,hb];exact last v w' E (y▸e)
  simp -implicitDefEqProofs only[kS,ag,f9,zS,mM];rw[nP]at f;by_cases q:0<=l[i].pt
  ·rw[bU q]at f;simp -implicitDefEqProofs only[zS,q,kS,ag,f9,bdp_pt];refine ps_55 (λu T=>evC_one (l[i].pt,(i:Int),false) u T) s dB t.size λU w2 V I _=>?_;have p:ad [] W w2:=t.grown I λk a=> .inr (oS s a);have Y:ad (eK v) w1 w2:=(ad.refl _ _).grown I λk a=> .inl (by simpa using a);refine F U w2 (oK l i++ [(l[i].pt,(i:Int),false)]) p (Y.at x λz=>R _ (by simpa using z) rfl) ?_ (by simp;omega) (by rw[f,cJ]);rw[cq,List.flatMap_append];simpa [gR]using V
  ·rw[bV q,List.nil_append]at f;simp -implicitDefEqProofs only[zS,q];exact F v w1 (oK l i) t x s dB f.symm
theorem c_oSort{l:List di}(f:l.length<=1000){A:Option Addr}{c:Nat}{w:World}(d:fp w A (l.flatMap jS)):aa prog 21 [.slice A l.length c] w λv w'=>jT w' w.heap.size v (if mI l=true then evs l else [])/\ad [] w w':=by
 apply F21_ok;simp -implicitDefEqProofs only[F21];refine(c_RMay dB ⟨A,c,rfl,d⟩).mono ?_;rintro _ w1 ⟨rfl,a⟩;cases e:mI l with
 |false=>
  simp -implicitDefEqProofs only[zS];exact⟨jT.nil _ _,a⟩
 |true=>
  have b:mayL l:=by
   unfold mI at e;exact @of_decide_eq_true _ (Classical.propDecidable _) e
  simp -implicitDefEqProofs only[zS,iP,if_true];refine(l_oSort b f (d.ao a.below) l.length 0 _ w1 (World.ownsRow_nil _ _ _ _) (ad.refl _ _) dB).mono ?_;rintro v w2 ⟨g,i⟩;exact⟨g.mono a.size,a.trans i⟩
end
theorem c_cfMay(c:cx)(w:World):aa prog 54 [.agg (dN c).toArray] w λv w'=>v= .bool (jw c)/\ad [] w w':=by
 apply F54_ok;have b:hp (w.alloc (.cells (dN c).toArray 25)) w.heap.size=some (.cells (dN c).toArray 25):=by rw[af,bU rfl]
 have a:ad [] w (w.alloc (.cells (dN c).toArray 25)):=(ad.refl _ _).alloc _;simp only[F54,ak,aq];generalize w.alloc (.cells (dN c).toArray 25)=w0 at*;simp only[zS,fq,ag,b,cf_0];refine(oG _ _ _ w0).step ?_;by_cases e:1<=c.1/\c.1<=64
 ·simp only[cr e,zS,jo,ag,b,cf_1];refine(oG _ _ _ w0).step ?_;by_cases f:1<=c.2.1/\c.2.1<=4096
  ·simp only[cr f,zS,eW,ag,b,cf_2];refine(oG _ _ _ w0).step ?_;by_cases d:8<=c.2.2.1/\c.2.2.1<=1024
   ·have l:c.2.2.1.tmod 8=c.2.2.1%8:=Int.tmod_eq_emod_of_nonneg dB;by_cases g:c.2.2.1%8=0
    ·have m:(c.2.2.1%8==0)=true:=by rw[g];rfl
     simp only[cr d,zS,gj,ag,b,cf_2,cf_3,km (show(8:Int)≠0 by decide),l,m];refine(oG _ _ _ w0).step ?_;by_cases i:1<=c.2.2.2.1/\c.2.2.2.1<=4096
     ·simp only[cr i,zS,fa_25_4,ag,b,cf_4];refine(oG _ _ _ w0).step ?_;by_cases j:0<=c.2.2.2.2.1/\c.2.2.2.2.1<=64
      ·simp only[cr j,zS,fa_25_5,ag,b,cf_5];refine(oG _ _ _ w0).step ?_;by_cases k:1<=c.2.2.2.2.2/\c.2.2.2.2.2<=8
       ·simp only[cr k];exact⟨by simp[jw,e,f,d,g,i,j,k],a⟩
       ·simp only[bZ k];exact⟨by rw[jw,bZ k];simp,a⟩
      ·simp only[bZ j,zS];exact⟨by rw[jw,bZ j];simp,a⟩
     ·simp only[bZ i,zS];exact⟨by rw[jw,bZ i];simp,a⟩
    ·simp only[cr d,zS,ag,b,cf_2,km (show(8:Int)≠0 by decide),l,aW g];exact⟨by rw[jw,bZ g];simp,a⟩
   ·simp only[bZ d,zS];exact⟨by rw[jw,bZ d];simp,a⟩
  ·simp only[bZ f,zS];exact⟨by rw[jw,bZ f];simp,a⟩
 ·simp only[bZ e,zS];exact⟨by rw[jw,bZ e];simp,a⟩
theorem ad.ext{w w':World}(h:ad [] w w'):Ext w w':=λa v b=>Below.cellKeep h.below b
theorem ib{P:Program}{f:FuncId}{args:List Value}{w:World}{R:Value->World->Prop}(h:aa P f args w λv w'=>R v w'/\ad [] w w'){K:Value->World->Prop}(b:∀v w',R v w'->ad [] w w'->K v w'):CallX P f args w K:=
 h.mono λv w' ⟨c,a⟩=>⟨ad.ext a,b v w' c a⟩
abbrev numV(v n:Int):Int:=v%n
structure Wn(m:dI)(K:Nat):Prop where
 gk:∀p∈m.slots,0<=p.2/\p.2<=K
 gn:∀r∈m.rgs,0<=r.nm.1/\r.nm.1<m.slots.length/\1<=r.nm.2/\∀p,m.slots[r.nm.1.toNat]? =some p->r.nm.2<=p.2
 nd:(m.rgs.map (·.nm)).Nodup
 lv:∀(i:Nat) (p:iH),m.slots[i]? =some p->p.1=1->∃k,ec m.rgs ((i:Int),p.2)=some k
 cw:m.c.1=m.hands.length
 cs:m.c.2.2.2.1=m.slots.length
theorem Wn.mono{m:dI}{K a:Nat}(h:Wn m K)(b:K<=a):Wn m a:=⟨λp hp=>by have:=h.gk p hp;omega,h.gn,h.nd,h.lv,h.cw,h.cs⟩
theorem wn_new{c:cx}(h:jw c=true)(l:Bool):Wn (qR c l) 0:=by
 obtain⟨a,d,e,f⟩:=may_cf h;refine⟨λp hp=>?_,(λr b=>by cases b),List.nodup_nil,λi p hp a=>?_,by simp only[qR,dz];omega,by simp only[qR,dz];omega⟩
 ·rw[List.eq_of_mem_replicate hp];exact⟨dm _,dm _⟩
 ·have:=List.eq_of_mem_replicate (cD hp);rw[this]at a;cases a
theorem findR_set{L:List fL}{i:Nat}{r r':fL}(a:L[i]? =some r)(b:r'.nm=r.nm)(n:iH):ec (L.set i r') n=ec L n:=by
 unfold ec;have:∀(M:List fL) (i:Nat),M[i]? =some r->(M.set i r').findIdx? (λx=>decide (x.nm=n))=M.findIdx? (λx=>decide (x.nm=n)):=by
  intro M;induction M with
  |nil=>intro i h;simp at h
  |cons x M c=>
   intro i h;cases i with
   |zero=>
    simp at h;subst h;rw[List.set_cons_zero,List.findIdx?_cons,List.findIdx?_cons,b]
   |succ i=>
    rw[List.set_cons_succ,List.findIdx?_cons,List.findIdx?_cons,c i (by simpa using h)]
 exact this L i a
theorem Wn.setRg{m:dI}{K:Nat}(h:Wn m K){i:Nat}{r r':fL}(a:m.rgs[i]? =some r)(b:r'.nm=r.nm):Wn {m with rgs:=m.rgs.set i r'} K:=by
 refine⟨h.gk,λx c=>?_,?_,λj p hp h1=>?_,h.cw,h.cs⟩
 ·rcases List.mem_or_eq_of_mem_set c with h1|h1
  ·exact h.gn x h1
  ·rw[h1,b];exact h.gn r (cD a)
 ·have:(m.rgs.set i r').map (·.nm)=m.rgs.map (·.nm):=by
   rw[List.map_set,b];exact kZ (by rw[cN,a];rfl)
  rw[this];exact h.nd
 ·obtain⟨k,d⟩:=h.lv j p hp h1;exact⟨k,by rw[findR_set a b];exact d⟩
theorem Wn.gA{m:dI}{K:Nat}(h:Wn m K)(w:Int)(d:qL):Wn (gA m w d) K:=⟨h.gk,h.gn,h.nd,h.lv,by simp only[Go.Proofs.YtnpflajdbchghaaGreat.gA,cE];exact h.cw,h.cs⟩
theorem Wn.setSl{m:dI}{K:Nat}(h:Wn m K){i:Nat}{p:iH}(hp:m.slots[i]? =some p){v:Int}(l:v≠1):Wn {m with slots:=m.slots.set i (v,p.2)} K:=by
 have g:=h.gk p (cD hp);refine⟨mem_set h.gk g,λr n=>?_,h.nd,λj q f k=>?_,h.cw,by simp only[cE];exact h.cs⟩
 ·obtain⟨a,b,c,d⟩:=h.gn r n;refine⟨a,by simp only[cE];exact b,c,λq f=>?_⟩;simp only at f;rw[cR]at f;split at f
  ·rename_i e;split at f
   ·cases f;exact d p (by rw[<- e];exact hp)
   ·cases f
  ·exact d q f
 ·simp only at f;rw[cR]at f;split at f
  ·split at f
   ·cases f;exact absurd k l
   ·cases f
  ·exact h.lv j q f k
theorem Wn.qt{m:dI}{K:Nat}(h:Wn m K)(a:eN)(n x:Int):Wn (dU m a n x) K:=by
 unfold dU;split
 ·split
  ·rename_i r b;exact h.setRg b rfl
  ·exact h
 ·exact h
theorem Wn.back{m:dI}{K:Nat}(h:Wn m K)(n:Int):Wn (nK m n).2 K:=by
 unfold nK;split
 ·split
  ·rename_i p hp;split
   ·exact h.setSl hp dC
   ·exact h
  ·exact h
 ·exact h
theorem Wn.does{m:dI}{K:Nat}(h:Wn m K)(w:Int)(o:eu)(a:eN):Wn (fD m w o a) K:=by
 unfold fD;split
 ·exact h
 ·split
  ·exact h.gA _ _
  split
  ·exact h.gA _ _
  split
  ·split
   ·exact h
   ·exact h.gA _ _
  split
  ·exact h.qt _ _ _
  split
  ·exact h.qt _ _ _
  split
  ·split
   ·exact h.qt _ _ _
   ·exact h
  split
  ·split
   ·rename_i p hp;refine h.setSl hp ?_;split<;>decide
   ·exact h
  ·exact h
theorem findR_app_left{L:List fL}{x:fL}{n:iH}{k:Nat}(h:ec L n=some k):ec (L++ [x]) n=some k:=by
 unfold ec at h⊢;rw[List.findIdx?_append,h];rfl
theorem findR_app_new{L:List fL}{x:fL}(h:ec L x.nm=none):ec (L++ [x]) x.nm=some L.length:=by
 unfold ec at h⊢;rw[List.findIdx?_append,h];simp[List.findIdx?_cons]
theorem Wn.fresh{m:dI}{K:Nat}(h:Wn m K){i:Nat}{p:iH}(hp:m.slots[i]? =some p)(r:fL)(f:r∈m.rgs):r.nm≠((i:Int),p.2+1):=λe=>by
 obtain⟨a,b,c,d⟩:=h.gn r f;rw[e]at d;have:=d p (by rw[cj];exact hp);simp only at this;omega
theorem Wn.creates{m:dI}{K:Nat}(h:Wn m K)(w:K<=1000000)(cls:Int)(r:jI):Wn (bT m cls r).2 (K+1):=by
 have i:=h.mono (Nat.le_succ K);unfold bT;split
 ·exact i
 split
 ·rename_i o;split
  ·rename_i p hp;split
   ·exact i
   split
   ·have s:=h.gk p (cD hp);have t:aY p.2=p.2+1:=by rw[aY,bU dB]
    have g:((r.2.1.1.toNat:Nat):Int)=r.2.1.1:=dB;have l:ec m.rgs (r.2.1.1,p.2+1)=none:=tM λj x hx=>by
     have:=h.fresh hp x (cD hx);rw[g]at this;exact this
    rw[t];refine⟨mem_set i.gk (by simp only;omega),λx hx=>?_,?_,λj q f n=>?_,h.cw,by simp only[cE];exact h.cs⟩
    ·simp only[cE];rcases List.mem_append.1 hx with hx|hx
     ·obtain⟨a,b,c,d⟩:=h.gn x hx;refine⟨a,b,c,λq f=>?_⟩;rw[cR]at f;split at f
      ·rename_i e;split at f
       ·cases f;have:=d p (by rw[<- e];exact hp);simp only;omega
       ·cases f
      ·exact d q f
     ·rw[db.1 hx];refine⟨o.1,o.2,by simp only;omega,λq f=>?_⟩;simp only at f;rw[cR,bU rfl]at f;split at f
      ·cases f;exact dm _
      ·cases f
    ·rw[List.map_append,List.nodup_append];refine⟨h.nd,by simp,λa u b hb=>?_⟩;obtain⟨x,hx,rfl⟩:=List.mem_map.1 u;rw[List.map_cons,List.map_nil,db]at hb;rw[hb];have:=h.fresh hp x hx;rw[g]at this;exact this
    ·simp only at f;rw[cR]at f;split at f
     ·rename_i e;split at f
      ·cases f;rw[<- e,g];exact⟨_,findR_app_new (x:=⟨(r.2.1.1,p.2+1),cls,0, [], [], []⟩) l⟩
      ·cases f
     ·obtain⟨k,v⟩:=h.lv j q f n;exact⟨k,findR_app_left v⟩
   ·exact i
  ·exact i
 ·exact i
theorem Wn.gives{m:dI}{K:Nat}(h:Wn m K)(n:Int)(a:eN)(r:jI):Wn (gX m n a r).2 (K+1):=by
 have b:=h.mono (Nat.le_succ K);unfold gX;split
 ·exact b
 ·split
  ·exact b
  ·rename_i i _ x c;simp only;split
   ·exact b
   split
   ·exact b
   split
   ·refine b.setRg c ?_;unfold lg;split<;>rfl
   ·exact b
theorem Wn.doV{m:dI}{K:Nat}(h:Wn m K)(c:K<=1000000)(w:Int)(o:eu)(a:eN)(r:jI):Wn (doV m w o a r).2 (K+1):=by
 have b:=h.mono (Nat.le_succ K);unfold Go.Proofs.YtnpflajdbchghaaGreat.doV;split
 ·exact b
 split
 ·split
  ·simp only;split
   ·exact(h.does _ _ _).mono (Nat.le_succ K)
   ·exact b
  ·exact b
 split
 ·exact h.creates c _ _
 ·exact h.gives _ _ _
section
variable{m:dI}{K:Nat}
theorem findX_rf(m:dI)(n:iH):ti (aL m).rgs n=ec m.rgs n:=by
 unfold ti aL;simp only[List.map_map];rw[show(Prod.fst∘λr:fL=>(r,ft m r.nm))=id from rfl,List.map_id]
theorem rgs_rf(m:dI)(i:Nat):(aL m).rgs[i]? =(m.rgs[i]?).map λr=>(r,ft m r.nm):=by
 simp[aL,cN]
theorem good_rfv(W:Wf m K)(k:Int)(a:eN):goodX (aL m) k a=(if gu k=0 then true else eA m a (gu k)):=by
 have c:gu k=0\/gu k=1\/gu k=2\/gu k=3:=by
  unfold gu;repeat' split
  all_goals omega
 have j:jg (aL m) a=match ec m.rgs (dO a)with
  |none=>(false,false)
  |some i=>(decide (a.2.2.1=0/\a.2.2.2.1=0/\a.2.2.2.2=0),match m.rgs[i]? with|some r=>decide (a∈r.objs)|none=>false):=by
  unfold jg;rw[findX_rf];cases ec m.rgs (dO a)with
  |none=>rfl
  |some i=>
   simp only[rgs_rf];cases m.rgs[i]? <;>rfl
 have g:∀of,eA m a of=match ec m.rgs (dO a)with
  |none=>false
  |some i=>if a.2.2.2.2=0 then decide (a.2.2.1=0)&&(decide (a.2.2.2.1=0)&&decide (of≠2))else decide (of≠1)&&(match m.rgs[i]? with|some r=>decide (a∈r.objs)|none=>false):=λof=>rfl
 unfold goodX;rw[j];cases d:ec m.rgs (dO a)with
 |none=>
  rcases c with h|h|h|h<;>rw[h]<;>simp[g,d]
 |some i=>
  obtain⟨r,e,_⟩:=nN d;have f:a.2.2.2.2=0->a∉r.objs:=λb l=>by
   have:=((W.rg r (cD e)).ob a l).2.2.1;omega
  simp only[e];rcases c with h|h|h|h<;>rw[h]
  ·simp
  ·simp only[if_true,g,d,e];by_cases b:a.2.2.2.2=0
   ·simp[b]
   ·simp[b]
  ·simp only[show¬(2:Int)=1 by decide,show¬(2:Int)=0 by decide,if_true,if_false,g,d,e];by_cases b:a.2.2.2.2=0
   ·rw[bU b,bZ (f b)];simp
   ·rw[bV b];simp
  ·simp only[show¬(3:Int)=1 by decide,show¬(3:Int)=2 by decide,show¬(3:Int)=0 by decide,if_true,if_false,g,d,e];by_cases b:a.2.2.2.2=0
   ·rw[bU b,bZ (f b)];simp[b]
   ·rw[bV b];simp[b]
theorem rf_spare(m:dI):lA (aL m).state=gf m.slots:=by
 rw[lA,gf];show((m.slots.map (·.1)).filter _).length=_;rw[List.filter_map,List.length_map];rfl
theorem rf_taken(m:dI)(a:Int):qw (aL m).rgs a=jf m a:=by
 unfold qw jf;show((m.rgs.map _).any _)=_;rw[List.any_map];rfl
theorem rf_back(m:dI)(n:Int):backX (aL m) n=((nK m n).1,aL (nK m n).2):=by
 unfold backX nK;have d:(aL m).state.length=m.slots.length:=by simp[aL]
 rw[d];by_cases h:0<=n/\n<m.slots.length
 ·obtain⟨p,hp⟩:∃p,m.slots[n.toNat]? =some p:=⟨_,bX dB⟩
  have f:(aL m).state.getD n.toNat 0=p.1:=by rw[cu];simp[aL,hp]
  rw[bU h,f,hp];by_cases a:p.1=2
  ·rw[bU ⟨h.1,h.2,a⟩];simp only[bU a];congr 1;have b:∀q:iH,ft {m with slots:=m.slots.set n.toNat (0,p.2)} q=ft m q:=λq=>by
    unfold ft;simp only[cE];congr 1;by_cases c:n.toNat=q.1.toNat
    ·have g:m.slots[q.1.toNat]? =some p:=by rw[<- c];exact hp
     have i:(m.slots.set n.toNat (0,p.2))[q.1.toNat]? =some (0,p.2):=by rw[<- c,cR,bU rfl,bU (bY.1 hp).1]
     rw[bZ (by rw[i];intro e;have:=congrArg Prod.fst (Option.some.inj e);simp at this),bZ (by rw[g];intro e;have:=congrArg Prod.fst (Option.some.inj e);simp only at this;omega)]
    ·have:(m.slots.set n.toNat (0,p.2))[q.1.toNat]? =m.slots[q.1.toNat]? :=by rw[cR,bV c]
     rw[this]
   unfold aL;simp only[List.map_set,b];congr 1;rw[kZ];rw[cN,hp];rfl
  ·rw[bV (λh'=>a h'.2.2)];simp only[bV a]
 ·rw[bV (λh'=>h ⟨h'.1,h'.2.1⟩),bV h]
end
section
variable{W w:World}{g g6 g7 g8 rN:Nat}{x:RfV}{m:dI}{F:Fp}{K:Nat}{o:eu}{h:eN}{d:qL}
theorem jx.word(I:jx w g x F){i:Nat}{p:fL×Bool}(V:x.rgs[i]? =some p){k:Nat}{L:List Int}(Z:p.1.words[k]? =some L){j:Nat}{y:Int}(hj:L[j]? =some y):
  ∃b c D E a G,an (hp w g) (0+9)=some (.slice (some ⟨b,0,none⟩) x.rgs.length c)/\an (hp w b) (i*8+6)=some (.slice (some ⟨D,0,none⟩) p.1.words.length E)/\an (hp w D) k=some (.slice (some ⟨a,0,none⟩) L.length G)/\an (hp w a) j=some (bR y)/\
   ∀z,pY (hp w a) (j+1)=true/\∃F',jx (put w a ((dL (hp w a)).setIfInBounds j (bR z)) (dM (hp w a))) g {x with rgs:=x.rgs.set i ({p.1 with words:=p.1.words.set k (L.set j z)},p.2)} F'/\aO F F' w (put w a ((dL (hp w a)).setIfInBounds j (bR z)) (dM (hp w a))):=by
 have H:(x.rgs.flatMap rrT)[i*8+6]? =some (gS p.1.words):=bK sN x.rgs i p V 6 dB;obtain⟨b,c,v,Fk,hl,a1,a2,W,_,_,J,K,s,_⟩:=eR.row I (gp x) (k:=9) (e':=250) (z:=8) (n:=x.rgs.length) (Qs:=x.rgs.flatMap rrT) rfl (iK x.rgs) H;have M:(p.1.words.map mZ)[k]? =some (mZ L):=by rw[cN,Z];rfl
 obtain⟨D,E,v2,a3,O,_,_,_,t,Q,o,_⟩:=aZ.cell K (λP K=>by obtain⟨l,_,rfl⟩:=List.mem_map.1 K;exact lX l) M;have R:((fZ L).map kY)[j]? =some (kY (bR y)):=by rw[fZ,List.map_map,cN,hj];rfl
 obtain⟨a,G,v3,a4,S,_,_,_,u,A,_,T⟩:=aZ.cell Q (gF (u64s_int L)) R;refine⟨b,c,D,E,a,G,hl,by rw[<- O];exact J,by rw[<- S];exact t,by rw[u,A.1],λz=>?_⟩;obtain⟨ok,X,m,B⟩:=T w cL (kY (bR z)) (bR z) (aO.none A.2 w) (fe _ _) ⟨rfl,λ_ h=>h⟩;have C:((fZ L).map kY).set j (kY (bR z))=(fZ (L.set j z)).map kY:=by simp[fZ,List.map_set]
 rw[C]at m;have q:mZ (L.set j z) (put w a ((dL (hp w a)).setIfInBounds j (bR z)) (dM (hp w a))) X v2:=by rw[mZ,cE];exact m
 obtain⟨Y,d,r⟩:=o _ X (mZ (L.set j z)) B q;rw[<- List.map_set]at d;have f:gS (p.1.words.set k (L.set j z)) (put w a ((dL (hp w a)).setIfInBounds j (bR z)) (dM (hp w a))) Y v:=by rw[gS,cE];exact d
 obtain⟨F3,U,h2⟩:=s _ Y (gS (p.1.words.set k (L.set j z))) r f;rw[lY sN (x':=({p.1 with words:=p.1.words.set k (L.set j z)},p.2)) dB rfl V]at U;have e:tN (x.rgs.set i ({p.1 with words:=p.1.words.set k (L.set j z)},p.2))=aZ 250 8 x.rgs.length ((x.rgs.set i ({p.1 with words:=p.1.words.set k (L.set j z)},p.2)).flatMap rrT):=by rw[tN,cE]
 rw[<- e]at U;exact⟨ok,F3,U,h2⟩
theorem ObjAt.rf{i:Nat}{r:fL}{k:Nat}{L:List Int}{j:Nat}{n:Int}(O:ObjAt m h n i r k L j):(aL m).rgs[i]? =some (r,ft m r.nm):=by rw[rgs_rf,O.ri];rfl
theorem nU{n:Int}(a:m.hands[n.toNat]? =some d):(aL m).holds[n.toNat]? =some d.holds/\(aL m).depth[n.toNat]? =some d.depth:=by simp[aL,a]
theorem l_rTouch2{L:World->Prop}(d:ad [] W w){c:Array Value}(a:hp w rN=some (.cells c 35))(e:c.size=8)(b:W.heap.size<=rN):
  P162_2 (bS rN) w λv w'=>v= .agg (gw lR).toArray/\ad [] W w':=by
 apply L162_2_ok;simp only[L162_2,bdr_,ac];rw[lh a e,eP (ar (aD a) _ _),ac];exact⟨rfl,d.put (.inr b) _ _⟩
theorem l_rTouch0(i:ad [] W w){p:Array Value}(a:hp w rN=some (.cells p 35))(j:p.size=8)(c:W.heap.size<=rN)(k:hp w g8=some (.cells (cI o).toArray 37))(y:6<=o.1)(z:o.1<=9):
  P162_0 (bS g8) (bS rN) (bR (gP m h o.2.2.2.1)) w λv w'=>v= .agg (gw (eO m o h)).toArray/\ad [] W w':=by
 apply L162_0_ok;have one:∀t:Bool,t=decide (o.1=6\/o.1=8)->P162_1 (bS g8) (bS rN) (bR (gP m h o.2.2.2.1)) (bN o.1) (.bool t) w λv w'=>v= .agg (gw (eO m o h)).toArray/\ad [] W w':=by
  intro t r;apply L162_1_ok;by_cases b:o.1=6\/o.1=8
  ·have d:t=true:=by rw[r];exact cr b
   subst d;have e:eO m o h=(0,kJ,0,gP m h o.2.2.2.1):=by rw[eO,bU b]
   have hb:ai prog (Instr.build 35 #[(3,bR (gP m h o.2.2.2.1))])=some (.agg (gw (0,kJ,0,gP m h o.2.2.2.1)).toArray):=bd_35_3;simp only[L162_1,zS,hb];rw[lh a j,eP (ar (aD a) _ _),ac,e];exact⟨rfl,i.put (.inr c) _ _⟩
  have d:t=false:=by rw[r];exact bZ b
  subst d;by_cases g:o.1=9
  ·have s:(o.1==9)=true:=by rw[g];rfl
   by_cases l:gP m h o.2.2.2.1=o.2.2.2.2.1
   ·have x:(gP m h o.2.2.2.1==o.2.2.2.2.1)=true:=by rw[l];exact beq_self_eq_true _
    have e:eO m o h=(0,kJ,1,0):=by rw[eO,bV b,bU g,bU l]
    have hb:ai prog (Instr.build 35 #[(2,bN 1)])=some (.agg (gw (0,kJ,1,0)).toArray):=bd_35_2;simp only[L162_1,zS,s,fr,br,k,pA,x,hb];rw[lh a j,eP (ar (aD a) _ _),ac,e];exact⟨rfl,i.put (.inr c) _ _⟩
   ·have e:eO m o h=lR:=by rw[eO,bV b,bU g,bV l];rfl
    simp only[L162_1,zS,s,fr,br,k,pA,aW l];rw[e];exact l_rTouch2 (L:=λ_=>True) i a j c
  ·have e:eO m o h=lR:=by rw[eO,bV b,bV g,bV dB]
   simp only[L162_1,zS,aW g];rw[e];exact l_rTouch2 (L:=λ_=>True) i a j c
 by_cases n:o.1=6
 ·have q:(o.1==6)=true:=by rw[n];rfl
  have f:=one true (by rw[n];rfl);simp only[L162_0,zS,am,ag,k,aJ,q];exact f
 ·have f:=one (o.1==8) (by
   by_cases u:o.1=8
   ·rw[u];rfl
   ·rw[aW u];exact(bZ dB).symm)
  simp only[L162_0,zS,am,ag,k,aJ,aW n];exact f
def oV(m:dI)(d:qL)(o:eu)(h:eN):jI:=if eI d h=false then bn 4 else if h.2.2.2.2<=o.2.2.2.1 then bn 5 else eO m o h
theorem c_rTouch(I:jx w g (aL m) F)(u:Wf m K)(hK:K<=1000000){n:Int}(n0:0<=n)(hd:m.hands[n.toNat]? =some d)(hk:eA m h 2=true)(o0:0<=o.2.2.2.1)(o6:6<=o.1)(o9:o.1<=9){i:Nat}(hf:ec m.rgs (dO h)=some i):
  aa prog 162 [bS g,bN n,bN i,.agg (cI o).toArray,.agg (ba h).toArray] w λv w'=>v= .agg (gw (oV m d o h)).toArray/\ad [] w w':=by
 apply F162_ok;simp only[F162,ak,aq,al_35,ah];generalize x:((w.alloc (.cells (cI o).toArray 37)).alloc _).alloc _=w1;have l:ad [] w w1:=by rw[<- x];exact(((ad.refl _ _).alloc _).alloc _).alloc _
 have P:hp w1 w.heap.size=some (.cells (cI o).toArray 37):=by rw[<- x,af,ah,ah,bV dB,af,ah,bV dB,af,bU rfl]
 have H:hp w1 (w.heap.size+1)=some (.cells (ba h).toArray 32):=by rw[<- x,af,ah,ah,bV dB,af,ah,bU rfl]
 have e:hp w1 (w.heap.size+1+1)=some (.cells (gw lR).toArray 35):=by rw[<- x,af,ah,ah,bU rfl];rfl
 clear x;obtain⟨s,gn,r,dd,hh,R⟩:=(I.ao l).rd;have e0:(ba h).toArray[0+0]? =some (bN h.1):=rfl;have e1:(ba h).toArray[0+1]? =some (bN h.2.1):=rfl;have e2:(ba h).toArray[0+2]? =some (bN h.2.2.1):=rfl;have e3:(ba h).toArray[0+3]? =some (bN h.2.2.2.1):=rfl;have e4:(ba h).toArray[0+4]? =some (bN h.2.2.2.2):=rfl;have hD:=u.hd d (cD hd);simp only[zS,bu,gm,ag,H,e0,e1];refine(c_rHas R n0 (nU hd).1 dB (dO h)).step ?_;have ht:decide (dO h∈d.holds)=eI d h:=rfl;rw[ht];cases f:eI d h with
 |false=>
  have y:oV m d o h=bn 4:=by rw[oV,bU f]
  simp only[zS,tj];rw[lh e rfl,eP (ar (aD e) _ _),ac,y];exact⟨rfl,l.put (.inr dB) _ _⟩
 |true=>
  by_cases J:h.2.2.2.2<=o.2.2.2.1
  ·have y:oV m d o h=bn 5:=by rw[oV,bV (by rw[f];simp),bU J]
   simp only[zS,bc,iz,ag,P,H,lV,e4,J,tj];rw[lh e rfl,eP (ar (aD e) _ _),ac,y];exact⟨rfl,l.put (.inr dB) _ _⟩
  have y:oV m d o h=eO m o h:=by rw[oV,bV (by rw[f];simp),bV J]
  rw[y];obtain⟨M,rg,k,L,j,O⟩:=obj_at u hk o0 dB;have S:M=i:=by have:=O.fi;rw[hf]at this;exact(Option.some.inj this).symm
  subst S;have cd:ad [] w1 w1.drew:=(ad.refl _ _).drew;have W1:=u.w1;have W2:=u.w2;have T:∀w2,ad [] w1 w2->∃b c q z t B,an (hp w2 g) (0+9)=some (.slice (some ⟨b,0,none⟩) (aL m).rgs.length c)/\an (hp w2 b) (M*8+6)=some (.slice (some ⟨q,0,none⟩) rg.words.length z)/\an (hp w2 q) k=some (.slice (some ⟨t,0,none⟩) L.length B)/\an (hp w2 t) j=some (bR (gP m h o.2.2.2.1)):=λw2 B=>by
   obtain⟨b,c,q,z,t,U,p1,p2,p3,p4,_⟩:=(I.ao (l.trans B)).word O.rf O.wk O.val;exact⟨b,c,q,z,t,U,p1,p2,p3,p4⟩
  obtain⟨b,c,q,z,t,B,p1,p2,p3,p4⟩:=T w1 (ad.refl _ _);obtain⟨Fr,V⟩:=(R.ao cd).rT;obtain⟨b',c',hx,cv,wv,ov,Q⟩:=rr_at V O.rf;have C:=R.rl;rw[p1,hx]at C;cases C;obtain⟨A,cc,rfl,W⟩:=lf Q.cT;have a1:M<(aL m).rgs.length:=(bY.1 O.rf).1;have X:=oP (b:=b) (p:=0) (n:=(aL m).rgs.length) (c:=c) (j:= .i64) (i:=(M:Int)) dB dB;rw[cj,cM]at X;have a2:=(bY.1 O.wk).1;have D:=ia_97 (b:=q) (p:=0) (n:=rg.words.length) (c:=z) (j:= .i64) (i:=(k:Int)) dB dB;rw[cj,cM,dr]at D;have a3:=O.jl;have a4:=O.wl;have E:=ia_139 (b:=t) (p:=0) (n:=L.length) (c:=B) (j:= .i64) (i:=(j:Int)) dB dB;rw[cj,cM,dr]at E;have Y:rg.chunks.length<=1000000:=cU (u.rg rg (cD O.ri)).cl hK;have G:=c_rAt (w:=w1.drew) (p:=(rg,ft m rg.nm)) (c:=cc) (wv:=wv) (ov:=ov) W Y h.2.2.1;rw[show nc (rg,ft m rg.nm).1.chunks h.2.2.1=(k:Int)from O.ix]at G;have sz:=l.size;simp only[zS,bc,eX,hC,iz,aS,mF,bz,ld_97,ag,P,H,lV,e2,e3,e4,J,p1,p2,X,ld_rg Q,aj,O.jn,ap (n:=(j:Int)) dB dB];repeat' (with_reducible apply And.intro)
  all_goals
   refine G.mono ?_;rintro _ w3 ⟨rfl,c3⟩;have a:=cd.trans c3;have t1:=ff a p1;have t2:=ff a p2;have t3:=ff a p3;have t4:=ff a p4;have t8:=a.at P (by simp);have t9:=a.at H (by simp);have Z:=a.at e (by simp);simp only[zS,mF,ld_97,jC,br,t1,t2,t3,t4,t8,t9,lV,e3,X,D,aj,O.jn,ap (n:=(j:Int)) dB dB,E];exact l_rTouch0 (l.trans a) Z rfl dB t8 o6 o9
end
section
variable{W w:World}{g g6 g7 g8 rN:Nat}{m:dI}{F:Fp}{K:Nat}{o:eu}{h:eN}{d:qL}{n:Int}
theorem l_rMust1(x:Int)(c:ad [] W w){a:Array Value}(b:hp w g8=some (.cells a 35))(d:a.size=8)(e:W.heap.size<=g8):
  P107_1 (bS g8) (bN x) w λv w'=>v= .tuple #[.agg (gw (bn x)).toArray,.bool true]/\ad [] W w':=by
 apply L107_1_ok;simp only[L107_1,tj,ac];rw[lh b d,eP (ar (aD b) _ _),ac];exact⟨rfl,c.put (.inr e) _ _⟩
theorem refuses_eq(hk:gu o.1=0\/eA m h (gu o.1)=true):bI m d o h=dR m.c.2.2.1 d (eI d h) (eD m h) o h.2.2.2.2:=by
 rw[bI,bV];rintro⟨b,a⟩;rcases hk with hk|hk
 ·exact b hk
 ·rw[hk]at a;cases a
theorem must_eq(a:lK m n o=true)(b:m.hands[n.toNat]? =some d):eG m n o h=if bI m d o h≠0 then(bn (bI m d o h),true)else if o.1=1\/o.1=2 then(lR,false)else(eO m o h,true):=by
 rw[eG,bV (by rw[a];simp),b]
theorem rf_flag(I:jx w g (aL m) F){i:Nat}{r:fL}(e:m.rgs[i]? =some r):∃b c,an (hp w g) (0+9)=some (.slice (some ⟨b,0,none⟩) (aL m).rgs.length c)/\(∃ f wv ov,RrR w b (i*8) (r,ft m r.nm) f wv ov)/\i<(aL m).rgs.length:=by
 obtain⟨s,j,rv,k,l,R⟩:=I.rd;obtain⟨Fr,a⟩:=R.rT;have d:(aL m).rgs[i]? =some (r,ft m r.nm):=by rw[rgs_rf,e];rfl
 obtain⟨b,c,rfl,Q⟩:=rr_at a d;exact⟨b,c,R.rl,Q,(bY.1 d).1⟩
theorem nh(r:jI)(b:Bool){w2:World}{P:jI×Bool}{c:Array Value}(d:ad [] W w2)(a:hp w2 g8=some (.cells c 35))(f:c.size=8)(g:W.heap.size<=g8)(e:P=(r,b)):
  ck prog (Instr.storeAt 35 (bS g8) (.agg (gw r).toArray)) w2 λw=>mV (gi prog 35 (bS g8) w) λi=>Value.tuple #[i,.bool b]= .tuple #[.agg (gw P.1).toArray,.bool P.2]/\ad [] W w:=by
 rw[lh a f,eP (ar (aD a) _ _),ac,e];exact⟨rfl,d.put (.inr g) _ _⟩
theorem l_rMust0{nn:Nat}(T:ad [] W w)(I:jx w g (aL m) F)(Wm:Wf m K)(hK:K<=1000000)(z:hp w g6=some (.cells (cI o).toArray 37))(h7:hp w g7=some (.cells (ba h).toArray 32)){c8:Array Value}(h8:hp w g8=some (.cells c8 35))(U:c8.size=8)(V:W.heap.size<=g8)
  (hm:lK m nn o=true) (hd:m.hands[nn]? =some d) (hk:gu o.1=0\/eA m h (gu o.1)=true) {ix:Int} (b4:gu o.1≠0->∃i,ec m.rgs (dO h)=some i/\ix=i):
  P107_0 (bS g) (bN nn) (bS g6) (bS g7) (bS g8) (bN ix) w λv w'=>v= .tuple #[.agg (gw (eG m nn o h).1).toArray,.bool (eG m nn o h).2]/\ad [] W w':=by
 apply L107_0_ok;obtain⟨n0,n1,o0⟩:=may_n hm;obtain⟨d1,c9⟩:=may_k hm;obtain⟨s,gn,rv,dd,hh,R⟩:=I.rd;have cd:ad [] w w.drew:=(ad.refl _ _).drew;have L:m.hands[(nn:Int).toNat]? =some d:=hd;have me:=must_eq (h:=h) hm L;rw[refuses_eq hk]at me;have hD:=Wm.hd d (cD hd);have d2:hp w.drew g6=some (.cells (cI o).toArray 37):=z;have X:hp w.drew g8=some (.cells c8 35):=h8;have a5:an (hp w g) (0+0+2)=some (bN m.c.2.2.1):=R.c 2 dB;obtain⟨Ad,b5,b6,b7⟩:=lf R.dT;have E:=R.dl;rw[b6]at E;have a7:=(nU L).2;rw[cj]at a7;obtain⟨qd,M,O⟩:=int_at (c:=b5) b7 a7;have cb:∀x,x≠0->dR m.c.2.2.1 d (eI d h) (eD m h) o h.2.2.2.2=x->eG m nn o h=(bn x,true):=λx hx e=>by rw[me,e,bU hx]
 have op:dR m.c.2.2.1 d (eI d h) (eD m h) o h.2.2.2.2=0->o.1=1\/o.1=2->eG m nn o h=(lR,false):=λe hx=>by rw[me,e,bV (by simp),bU hx]
 have nb:∀r,eO m o h=r->dR m.c.2.2.1 d (eI d h) (eD m h) o h.2.2.2.2=0->¬(o.1=1\/o.1=2)->eG m nn o h=(r,true):=λr e1 e2 hx=>by
  rw[me,e2,bV (by simp),bV hx,e1]
 have fin:∀(x:Int),eG m nn o h=(bn x,true)->P107_1 (bS g8) (bN x) w λv w'=>v= .tuple #[.agg (gw (eG m nn o h).1).toArray,.bool (eG m nn o h).2]/\ad [] W w':=λx e=>by
  rw[e];exact l_rMust1 x T h8 U V
 by_cases k1:o.1=1
 ·have q:(o.1==1)=true:=by rw[k1];rfl
  have e:=op (by rw[dR,bV dB,bV dB,bV dB,bV dB,bV dB,bV dB]) (.inl k1);simp only[L107_0,zS,am,ag,z,aJ,q,bdr_];exact nh lR false T h8 U V e
 have C:gu o.1≠0->∃i r b c,ec m.rgs (dO h)=some i/\ix=(i:Int)/\an (hp w g) (0+9)=some (.slice (some ⟨b,0,none⟩) (aL m).rgs.length c)/\ai prog (Instr.indexAt 179 (.slice (some ⟨b,0,none⟩) (aL m).rgs.length c) (bN ix))=some (.pointer (some ⟨b,i*8,none⟩))/\
   m.rgs[i]? =some r/\an (hp w b) (i*8+4)=some (.bool (ft m (dO h)))/\an (hp w b) (i*8+3)=some (bN r.off):=λY=>by
  obtain⟨i,A,rfl⟩:=b4 Y;obtain⟨r,D,b8⟩:=nN A;obtain⟨b,c,hb,⟨cv,wv,ov,Q⟩,d3⟩:=rf_flag I D;have G:=oP (b:=b) (p:=0) (n:=(aL m).rgs.length) (c:=c) (j:= .i64) (i:=(i:Int)) dB dB;rw[cj,cM]at G;exact⟨i,r,b,c,A,rfl,hb,G,D,by rw[<- b8];exact Q.c4,Q.c3⟩
 have Z:ft m (dO h)=true->eD m h=0:=λu=>by unfold eD;exact bU u
 have a3:ft m (dO h)=false->eD m h=3:=λu=>by rw[eD,bV (by show¬ft m (dO h)=true;rw[u];simp)]
 by_cases k2:o.1=2
 ·have q:(o.1==2)=true:=by rw[k2];rfl
  obtain⟨i,r,b,c,A,rfl,hb,G,D,k,_⟩:=C (by rw[show gu o.1=1 by rw[k2];rfl];decide);have a:dR m.c.2.2.1 d (eI d h) (eD m h) o h.2.2.2.2=if o.2.2.2.1<1\/m.c.2.2.1<o.2.2.2.1 then 5 else eD m h:=by rw[dR,bU k2]
  by_cases y:o.2.2.2.1<1
  ·have e:=cb 5 dC (by rw[a,bU (.inl y)]);simp only[L107_0,zS,am,bc,ag,z,aJ,lV,aW k1,q,y,tj];exact nh (bn 5) true T.drew X U V e
  by_cases a2:m.c.2.2.1<o.2.2.2.1
  ·have e:=cb 5 dC (by rw[a,bU (.inr a2)]);simp only[L107_0,zS,am,bc,ag,z,aJ,lV,aW k1,q,y,fC,eW,a5,a2,tj];exact nh (bn 5) true T.drew X U V e
  have a9:dR m.c.2.2.1 d (eI d h) (eD m h) o h.2.2.2.2=eD m h:=by rw[a,bV dB]
  cases u:ft m (dO h)with
  |true=>
   have e:=op (by rw[a9,Z u]) (.inr k2);rw[u]at k;simp only[L107_0,zS,am,bc,ag,z,aJ,lV,aW k1,q,y,fC,aS,eW,a5,a2,bz,hb,G,jc,az,k,bdr_];exact nh lR false T.drew X U V e
  |false=>
   have e:=cb 3 dC (by rw[a9,a3 u]);rw[u]at k;simp only[L107_0,zS,am,bc,ag,z,aJ,lV,aW k1,q,y,fC,aS,eW,a5,a2,bz,hb,G,jc,az,k,tj];exact nh (bn 3) true T.drew X U V e
 have l:¬(o.1=1\/o.1=2):=dB;have d4:(lR:jI)=bn 0:=rfl;by_cases B:o.1=3
 ·have q:(o.1==3)=true:=by rw[B];rfl
  have S:eO m o h=bn 0:=by rw[eO,bV dB,bV dB,bV dB];rfl
  have a:dR m.c.2.2.1 d (eI d h) (eD m h) o h.2.2.2.2=if d.depth=15 then 8 else 0:=by rw[dR,bV k2,bU B]
  by_cases y:d.depth=15
  ·have e:(d.depth==15)=true:=by rw[y];rfl
   have f:=fin 8 (cb 8 dC (by rw[a,bU y]));simp only[L107_0,zS,am,ag,z,aJ,aW k1,aW k2,q,mB,aK,E,M,O,e];exact f
  ·have f:=fin 0 (nb _ S (by rw[a,bV y]) l);simp only[L107_0,zS,am,ag,z,aJ,aW k1,aW k2,q,mB,aK,E,M,O,aW y];exact f
 by_cases H:o.1=4
 ·have q:(o.1==4)=true:=by rw[H];rfl
  have S:eO m o h=bn 0:=by rw[eO,bV dB,bV dB,bV dB];rfl
  have a:dR m.c.2.2.1 d (eI d h) (eD m h) o h.2.2.2.2=if d.depth=0 then 4 else 0:=by rw[dR,bV k2,bV B,bU H]
  by_cases y:d.depth=0
  ·have e:(d.depth==0)=true:=by rw[y];rfl
   have f:=fin 4 (cb 4 dC (by rw[a,bU y]));simp only[L107_0,zS,am,ag,z,aJ,aW k1,aW k2,aW B,q,mB,aK,E,M,O,e];exact f
  ·have f:=fin 0 (nb _ S (by rw[a,bV y]) l);simp only[L107_0,zS,am,ag,z,aJ,aW k1,aW k2,aW B,q,mB,aK,E,M,O,aW y];exact f
 by_cases P:o.1=5
 ·have q:(o.1==5)=true:=by rw[P];rfl
  have S:eO m o h=bn 0:=by rw[eO,bV dB,bV dB,bV dB];rfl
  have a:dR m.c.2.2.1 d (eI d h) (eD m h) o h.2.2.2.2=if d.depth=0 then 4 else if eI d h then 0 else if d.holds.length=8 then 8 else eD m h:=by rw[dR,bV k2,bV B,bV H,bU P]
  obtain⟨i,r,b,c,A,rfl,hb,G,D,k,_⟩:=C (by rw[show gu o.1=3 by rw[P];rfl];decide);have e0:(ba h).toArray[0+0]? =some (bN h.1):=rfl;have e1:(ba h).toArray[0+1]? =some (bN h.2.1):=rfl;by_cases y:d.depth=0
  ·have e:(d.depth==0)=true:=by rw[y];rfl
   have f:=fin 4 (cb 4 dC (by rw[a,bU y]));simp only[L107_0,zS,am,ag,z,aJ,aW k1,aW k2,aW B,aW H,q,mB,aK,E,M,O,e];exact f
  rw[bV y]at a;simp only[L107_0,zS,am,ag,z,aJ,aW k1,aW k2,aW B,aW H,q,mB,aK,E,M,O,aW y,bu,gm,h7,e0,e1];refine(c_rHas R n0 (nU L).1 dB (dO h)).step ?_;rw[show decide (dO h∈d.holds)=eI d h from rfl];cases hv:eI d h with
  |true=>
   have f:=fin 0 (nb _ S (by rw[a,hv];rfl) l);simp only[zS];exact f
  |false=>
   rw[bV (by rw[hv];simp)]at a;obtain⟨Fh,b9⟩:=R.hT;obtain⟨bh,ch,vh,rfl,a6,c1⟩:=hold_at b9 (nU L).1;obtain⟨Ah,d5,rfl,_⟩:=keys_sh c1;have d6:=(bY.1 (nU L).1).1;have a4:=ia_180 (b:=bh) (p:=0) (n:=(aL m).holds.length) (c:=ch) (j:= .i64) (i:=(nn:Int)) dB dB;rw[cM,dr]at a4;by_cases a8:d.holds.length=8
   ·have e:((d.holds.length:Int)==8)=true:=by rw[a8];rfl
    have f:=fin 8 (cb 8 dC (by rw[a,bU a8]));simp only[zS,nu,tC,R.hl,a4,kW,a6,jt,e];exact f
   ·have e:((d.holds.length:Int)==8)=false:=beq_eq_false_iff_ne.2 dB;rw[bV a8]at a;cases u:ft m (dO h)with
    |true=>
     have f:=fin 0 (nb _ S (by rw[a,Z u]) l);rw[u]at k;simp only[zS,nu,aS,tC,R.hl,a4,kW,a6,jt,e,bz,hb,G,jc,az,k];exact f
    |false=>
     have f:=fin 3 (cb 3 dC (by rw[a,a3 u]));rw[u]at k;simp only[zS,nu,aS,tC,R.hl,a4,kW,a6,jt,e,bz,hb,G,jc,az,k];exact f
 by_cases J:o.1=10
 ·have q:(o.1==10)=true:=by rw[J];rfl
  have S:eO m o h=bn 0:=by rw[eO,bV dB,bV dB,bV dB];rfl
  have a:dR m.c.2.2.1 d (eI d h) (eD m h) o h.2.2.2.2=eD m h:=by rw[dR,bV k2,bV B,bV H,bV P,bV dB,bU (.inl J)]
  obtain⟨i,r,b,c,A,rfl,hb,G,D,k,_⟩:=C (by rw[show gu o.1=1 by rw[J];rfl];decide);cases u:ft m (dO h)with
  |true=>
   have f:=fin 0 (nb _ S (by rw[a,Z u]) l);rw[u]at k;simp only[L107_0,zS,am,ag,z,aJ,aW k1,aW k2,aW B,aW H,aW P,q,aS,bz,hb,G,jc,az,k];exact f
  |false=>
   have f:=fin 3 (cb 3 dC (by rw[a,a3 u]));rw[u]at k;simp only[L107_0,zS,am,ag,z,aJ,aW k1,aW k2,aW B,aW H,aW P,q,aS,bz,hb,G,jc,az,k];exact f
 by_cases l:o.1=12
 ·have q:(o.1==12)=true:=by rw[l];rfl
  have a:dR m.c.2.2.1 d (eI d h) (eD m h) o h.2.2.2.2=eD m h:=by rw[dR,bV k2,bV B,bV H,bV P,bV dB,bU (.inr l)]
  obtain⟨i,r,b,c,A,rfl,hb,G,D,k,Y⟩:=C (by rw[show gu o.1=1 by rw[l];rfl];decide);have S:eO m o h=(0,kJ,r.off,0):=by
   rw[eO,bV dB,bV dB,bU l,rgOf,A];simp only[Option.bind_some,D]
  have c5:ai prog (Instr.build 35 #[(2,bN r.off)])=some (.agg (gw (0,kJ,r.off,0)).toArray):=bd_35_2;cases u:ft m (dO h)with
  |true=>
   have e:=nb _ S (by rw[a,Z u]) dB;rw[u]at k;simp only[L107_0,zS,am,ag,z,aJ,aW k1,aW k2,aW B,aW H,aW P,aW J,q,aS,bz,hb,G,jc,mD,az,k,Y,c5];exact nh (0,kJ,r.off,0) true T h8 U V e
  |false=>
   have e:=cb 3 dC (by rw[a,a3 u]);rw[u]at k;simp only[L107_0,zS,am,ag,z,aJ,aW k1,aW k2,aW B,aW H,aW P,aW J,q,aS,bz,hb,G,jc,az,k,tj];exact nh (bn 3) true T h8 U V e
 by_cases b3:o.1=11
 ·have q:(o.1==11)=true:=by rw[b3];rfl
  have S:eO m o h=bn 0:=by rw[eO,bV dB,bV dB,bV dB];rfl
  have f:=fin 0 (nb _ S (by rw[dR,bV k2,bV B,bV H,bV P,bV dB,bV dB]) dB);simp only[L107_0,zS,am,ag,z,aJ,aW k1,aW k2,aW B,aW H,aW P,aW J,aW l,q];exact f
 ·have k6:6<=o.1:=dB;have k9:o.1<=9:=dB;have eo:gu o.1=2:=by rw[gu,bV dB,bU ⟨k6,k9⟩]
  obtain⟨i,r,b,c,A,rfl,hb,G,D,k,Y⟩:=C (by rw[eo];decide);have c6:eA m h 2=true:=by
   rcases hk with hk|hk
   ·rw[eo]at hk;omega
   ·rw[eo]at hk;exact hk
  have a:dR m.c.2.2.1 d (eI d h) (eD m h) o h.2.2.2.2=if eI d h=false then 4 else if h.2.2.2.2<=o.2.2.2.1 then 5 else 0:=by rw[dR,bV k2,bV B,bV H,bV P,bU ⟨k6,k9⟩]
  have e:eG m nn o h=(oV m d o h,true):=by
   unfold oV;by_cases b1:eI d h=false
   ·rw[bU b1];exact cb 4 dC (by rw[a,bU b1])
   ·rw[bV b1];by_cases b2:h.2.2.2.2<=o.2.2.2.1
    ·rw[bU b2];exact cb 5 dC (by rw[a,bV b1,bU b2])
    ·rw[bV b2];exact nb _ rfl (by rw[a,bV b1,bV b2]) dB
  have c7:=aR (t:=37) (c:=(cI o).toArray) td (show(Tryz.prog.info? 37).map (·.size)=some (cI o).toArray.size from nC) z;simp only[L107_0,zS,am,ag,z,aJ,aW k1,aW k2,aW B,aW H,aW P,aW J,aW l,aW b3,c7,iU h7];refine(c_rTouch I Wm hK n0 L c6 o0 k6 k9 A).mono ?_;rintro _ w2 ⟨rfl,c2⟩;exact nh (oV m d o h) true (T.trans c2) (c2.at h8 (by simp)) U V e
theorem c_rMust(I:jx w g (aL m) F)(k:Wf m K)(x:K<=1000000){nn:Nat}(l:lK m nn o=true)(h:eN):
  aa prog 107 [bS g,bN nn,.agg (cI o).toArray,.agg (ba h).toArray] w λv w'=>v= .tuple #[.agg (gw (eG m nn o h).1).toArray,.bool (eG m nn o h).2]/\ad [] w w':=by
 apply F107_ok;obtain⟨d,y⟩:=may_hd l;simp only[F107,ak,aq,al_35,ah];generalize f:((w.alloc (.cells (cI o).toArray 37)).alloc _).alloc _=w1;have E:ad [] w w1:=by rw[<- f];exact(((ad.refl _ _).alloc _).alloc _).alloc _
 have G:hp w1 w.heap.size=some (.cells (cI o).toArray 37):=by rw[<- f,af,ah,ah,bV dB,af,ah,bV dB,af,bU rfl]
 have H:hp w1 (w.heap.size+1)=some (.cells (ba h).toArray 32):=by rw[<- f,af,ah,ah,bV dB,af,ah,bU rfl]
 have L:hp w1 (w.heap.size+1+1)=some (.cells (gw lR).toArray 35):=by rw[<- f,af,ah,ah,bU rfl];rfl
 clear f;have z:=aR (t:=37) (c:=(cI o).toArray) td (show(Tryz.prog.info? 37).map (·.size)=some (cI o).toArray.size from nC) G;obtain⟨s,X,rv,Y,Z,R⟩:=(I.ao E).rd;have sm:=k.small x;have J:(aL m).rgs.length<=1000000:=by show(m.rgs.map _).length<=_;rw[List.length_map];exact sm.r
 have M:∀p∈(aL m).rgs,p.1.objs.length<=1000000:=λp hp=>by
  obtain⟨r,A,rfl⟩:=List.mem_map.1 hp;exact sm.o r A
 simp only[z,iU H,ac];refine(c_rGood R J M o h).mono ?_;rintro _ w2 ⟨rfl,n⟩;rw[good_rfv k o.1 h];have a:=E.trans n;have q:=n.at G (by simp);have B:=n.at H (by simp);have C:=n.at L (by simp);have O:=must_eq (h:=h) l y;have P:(ba h).toArray[0+0]? =some (bN h.1):=rfl;have Q:(ba h).toArray[0+1]? =some (bN h.2.1):=rfl;by_cases b:gu o.1=0
 ·rw[bU b];simp only[zS,am,ag,q,aJ];refine(c_Of o.1 w2).step ?_;have D:(gu o.1 !=0)=false:=by rw[b];rfl
  simp only[zS,D];exact l_rMust0 a (I.ao a) k x q B C rfl dB l y (.inl b) (λh=>absurd b h)
 ·rw[bV b];cases j:eA m h (gu o.1)with
  |false=>
   have A:bI m d o h=2:=by rw[bI,bU ⟨b,j⟩]
   have e:eG m nn o h=(bn 2,true):=by rw[O,A,bU dC]
   simp only[zS,tj];exact nh (bn 2) true a C rfl dB e
  |true=>
   simp only[zS,am,ag,q,aJ];refine(c_Of o.1 w2).step ?_;have D:(gu o.1 !=0)=true:=bne_iff_ne.2 b;obtain⟨s2,S,T,U,V,W⟩:=(I.ao a).rd;simp only[zS,D,bu,gm,ag,B,P,Q];refine(c_rFind W (dO h) J).step ?_;rw[findX_rf];obtain⟨i,u⟩:∃i,ec m.rgs (dO h)=some i:=by
    unfold eA at j;split at j
    ·cases j
    ·rename_i i u;exact⟨i,u⟩
   rw[u];exact l_rMust0 a (I.ao a) k x q B C rfl dB l y (.inr j) (λ_=>⟨i,u,rfl⟩)
end
section
variable{W w:World}{g g6 g7:Nat}{m:dI}{x:RfV}{F:Fp}{K:Nat}{o:eu}{h:eN}{d:qL}{nn:Nat}
theorem jx.qM(I:jx w g x F){i:Nat}{p:fL×Bool}(C:x.rgs[i]? =some p){k:Nat}(D:k<8){P:Th}(E:(rrT p)[k]? =some P):
  ∃b c v a,an (hp w g) (0+9)=some (.slice (some ⟨b,0,none⟩) x.rgs.length c)/\b≠g/\F b/\(∀ y,a y->F y)/\an (hp w b) (i*8+k)=some v/\P w a v/\
   ∀w1 F' d v' p',aO a F' w w1->fR d->d w1 F' v'->rrT p'=(rrT p).set k d->pY (hp w1 b) (i*8+k+1)=true/\v'.cells= #[v']/\v'.oneCell'=true/\hp w1 g=hp w g/\
    ∃l,jx (put w1 b ((dL (hp w1 b)).setIfInBounds (i*8+k) v') (dM (hp w1 b))) g {x with rgs:=x.rgs.set i p'} l/\aO F l w (put w1 b ((dL (hp w1 b)).setIfInBounds (i*8+k) v') (dM (hp w1 b))):=by
 have m:(x.rgs.flatMap rrT)[i*8+k]? =some P:=(bK sN x.rgs i p C k D).trans E;obtain⟨b,c,v,a,G,o,q,f,_,_,r,H,_,j⟩:=eR.row I (gp x) (k:=9) (e':=250) (z:=8) (n:=x.rgs.length) (Qs:=x.rgs.flatMap rrT) rfl (iK x.rgs) m;refine⟨b,c,v,a,G,o,q,f,r,H,λw1 F' d v' p' u s t J=>?_⟩;obtain⟨ok,K,L,A,l,B,M⟩:=j w1 F' d v' u s t;rw[lY sN D J C]at B;have e:tN (x.rgs.set i p')=aZ 250 8 x.rgs.length ((x.rgs.set i p').flatMap rrT):=by rw[tN,cE]
 rw[<- e]at B;exact⟨ok,K,L,A,l,B,M⟩
theorem jx.holdPut(I:jx w g x F){l:List iH}(A:x.holds[nn]? =some l):
  ∃b c v d,an (hp w g) (0+11)=some (.slice (some ⟨b,0,none⟩) x.holds.length c)/\b≠g/\F b/\(∀ y,d y->F y)/\an (hp w b) nn=some v/\nO l w d v/\
   ∀w1 F' a v',aO d F' w w1->nO a w1 F' v'->pY (hp w1 b) (nn+1)=true/\v'.cells= #[v']/\v'.oneCell'=true/\hp w1 g=hp w g/\
    ∃j,jx (put w1 b ((dL (hp w1 b)).setIfInBounds nn v') (dM (hp w1 b))) g {x with holds:=x.holds.set nn a} j/\aO F j w (put w1 b ((dL (hp w1 b)).setIfInBounds nn v') (dM (hp w1 b))):=by
 have m:(x.holds.map nO)[nn]? =some (nO l):=by rw[cN,A];rfl
 obtain⟨b,c,v,d,B,o,p,f,_,_,q,C,_,i⟩:=eR.row I (gp x) (k:=11) (e':=161) (z:=1) (n:=x.holds.length) (Qs:=x.holds.map nO) rfl (rP x.holds) m;refine⟨b,c,v,d,B,o,p,f,q,C,λw1 F' a v' u r=>?_⟩;obtain⟨ok,D,E,s,j,t,G⟩:=i w1 F' (nO a) v' u (good_keys a) r;rw[<- List.map_set]at t;have e:qv (x.holds.set nn a)=aZ 161 1 x.holds.length ((x.holds.set nn a).map nO):=by rw[qv,cE]
 rw[<- e]at t;exact⟨ok,D,E,s,j,t,G⟩
theorem rf_setHd(m:dI)(a:qL):aL (gA m nn a)={aL m with depth:=(aL m).depth.set nn a.depth,holds:=(aL m).holds.set nn a.holds}:=by
 simp only[aL,gA,cj,List.map_set];rfl
theorem rf_setRg(m:dI){i:Nat}{r r':fL}(b:m.rgs[i]? =some r)(a:r'.nm=r.nm):aL {m with rgs:=m.rgs.set i r'}={aL m with rgs:=(aL m).rgs.set i (r',ft m r.nm)}:=by
 simp only[aL,List.map_set,<-a];rfl
theorem nd_unique{L:List fL}(h:(L.map (·.nm)).Nodup){i j:Nat}{r s:fL}(f:L[i]? =some r)(g:L[j]? =some s)(e:r.nm=s.nm):i=j:=by
 have k:(L.map (·.nm))[i]? =some r.nm:=by rw[cN,f];rfl
 have l:(L.map (·.nm))[j]? =some r.nm:=by rw[cN,g,e];rfl
 obtain⟨a,b⟩:=bY.1 k;obtain⟨c,d⟩:=bY.1 l;have hp:=List.pairwise_iff_getElem.1 h;rcases Nat.lt_trichotomy i j with hlt|heq|hlt
 ·exact absurd (b.trans d.symm) (hp i j a c hlt)
 ·exact heq
 ·exact absurd (d.trans b.symm) (hp j i c a hlt)
theorem rf_free(f:Wn m K){i:Nat}{r:fL}{q:iH}(g:m.rgs[i]? =some r)(o:m.slots[r.nm.1.toNat]? =some (1,q.2))(p:r.nm.2=q.2){v:Int}(s:v≠1):
  aL {m with slots:=m.slots.set r.nm.1.toNat (v,q.2)}={aL m with state:=(aL m).state.set r.nm.1.toNat v,rgs:=(aL m).rgs.set i (r,false)}:=by
 have l:∀(j:Nat) (x:fL),m.rgs[j]? =some x->ft {m with slots:=m.slots.set r.nm.1.toNat (v,q.2)} x.nm=if j=i then false else ft m x.nm:=λj x k=>by
  unfold ft;simp only[cE];obtain⟨a,b,c,w⟩:=f.gn x (cD k);rw[cr (show 0<=x.nm.1/\x.nm.1<m.slots.length from⟨a,b⟩),Bool.true_and,Bool.true_and];by_cases n:r.nm.1.toNat=x.nm.1.toNat
  ·have t:(m.slots.set r.nm.1.toNat (v,q.2))[x.nm.1.toNat]? =some (v,q.2):=by rw[<- n,cR,bU rfl,bU (bY.1 o).1]
   rw[bZ (by rw[t];intro e;exact s (congrArg Prod.fst (Option.some.inj e)))];by_cases d:j=i
   ·rw[bU d]
   ·rw[bV d];refine(bZ ?_).symm;rw[<- n,o];intro e;have u:q.2=x.nm.2:=(Prod.mk.inj (Option.some.inj e)).2;obtain⟨a',_⟩:=f.gn r (cD g);exact d (nd_unique f.nd k g (Prod.ext dB (by rw[<- u,p])))
  ·have d:j≠i:=λe=>by
    subst e;rw[g]at k;cases k;exact n rfl
   rw[bV d];have:(m.slots.set r.nm.1.toNat (v,q.2))[x.nm.1.toNat]? =m.slots[x.nm.1.toNat]? :=by rw[cR,bV n]
   rw[this]
 unfold aL;simp only[List.map_set];congr 1
 ·exact kZ (by rw[cN,o];rfl)
 ·apply List.ext_getElem?;intro j;rw[cN,cR,cN];by_cases d:i=j
  ·subst d;rw[bU rfl,g];simp only[Option.map_some,l i r g,if_true];rw[bU (by rw[List.length_map];exact(bY.1 g).1)]
  ·rw[bV d];cases k:m.rgs[j]? with
   |none=>rfl
   |some x=>simp only[Option.map_some,l j x k,bV (Ne.symm d)]
theorem l_rDoes2(C:ad [] W w)(I:jx w g (aL m) F)(M:Wf m K)(A:hp w g6=some (.cells (cI o).toArray 37)){i:Nat}{r:fL}{k:Nat}{L:List Int}{j:Nat}(O:ObjAt m h o.2.2.2.1 i r k L j)(U:m.hands[nn]? =some d)(k6:o.1=7\/o.1=8\/o.1=9):
  P128_2 (bS g) (bS g6) (bN i) (bN k) (bN j) w λv w'=>v= .tuple #[]/\∃F',jx w' g (aL (fD m nn o h)) F'/\aO F F' W w':=by
 apply L128_2_ok;have D:ad [] w w.drew:=(ad.refl _ _).drew;obtain⟨b,c,P,V,E,X,p1,p2,p3,p4,_⟩:=I.word O.rf O.wk O.val;obtain⟨b',c',Y,Z,a1,a2,Q,R,S,q4,t⟩:=(I.ao D).word O.rf O.wk O.val;rw[show an (hp w.drew g) (0+9)=_ from p1]at Q;cases Q;rw[show an (hp w.drew b) (i*8+6)=_ from p2]at R;cases R;rw[show an (hp w.drew P) k=_ from p3]at S;cases S;have W1:=M.w1;have W2:=M.w2;have a3:i<(aL m).rgs.length:=(bY.1 O.rf).1;have z:=oP (b:=b) (p:=0) (n:=(aL m).rgs.length) (c:=c) (j:= .i64) (i:=(i:Int)) dB dB;rw[cj,cM]at z;have a4:=(bY.1 O.wk).1;have a:=ia_97 (b:=P) (p:=0) (n:=r.words.length) (c:=V) (j:= .i64) (i:=(k:Int)) dB dB;rw[cj,cM,dr]at a;have a5:=O.jl;have f:=ia_139 (b:=E) (p:=0) (n:=L.length) (c:=X) (j:= .i64) (i:=(j:Int)) dB dB;rw[cj,cM,dr]at f;have rd:∀y,aL (dU m h o.2.2.2.1 y)={aL m with rgs:=(aL m).rgs.set i ({r with words:=r.words.set k (L.set j y)},ft m r.nm)}:=λy=>by rw[O.put y];exact rf_setRg m O.ri rfl
 have s:m.hands[((nn:Int)).toNat]? =some d:=U;have fin:∀y,fD m nn o h=dU m h o.2.2.2.1 y->ck prog (Instr.storeAt 33 (.pointer (some ⟨E,j,none⟩)) (bR y)) w.drew λw'=>∃F',jx w' g (aL (fD m nn o h)) F'/\aO F F' W w':=λy e=>by
  obtain⟨ok,G,H,J⟩:=t y;rw[nG rfl rfl ok,e,rd y];exact⟨G,H,J.pre (C.trans D)⟩
 have l:∀y,fD m nn o h=dU m h o.2.2.2.1 y->ck prog (Instr.storeAt 33 (.pointer (some ⟨E,j,none⟩)) (bR y)) w.drew λw'=>True/\∃F',jx w' g (aL (fD m nn o h)) F'/\aO F F' W w':=λy e=>by
  obtain⟨ok,G,H,J⟩:=t y;rw[nG rfl rfl ok,e,rd y];exact⟨trivial,G,H,J.pre (C.trans D)⟩
 by_cases u:o.1=7
 ·have q:(o.1==7)=true:=by rw[u];rfl
  have e:fD m nn o h=dU m h o.2.2.2.1 o.2.2.2.2.1:=by
   rw[fD,s];simp only;rw[bV dB,bV dB,bV dB,bU u]
  simp only[L128_2,zS,aS,mF,am,fr,bz,ld_97,jC,br,ag,p1,p2,p3,p4,z,a,f,A,aJ,pA,q];first|exact l _ e|exact fin _ e
 by_cases x:o.1=8
 ·have q:(o.1==8)=true:=by rw[x];rfl
  have e:fD m nn o h=dU m h o.2.2.2.1 (IntKind.u64.wrap (gP m h o.2.2.2.1+o.2.2.2.2.1)):=by
   rw[fD,s];simp only;rw[bV dB,bV dB,bV dB,bV u,bU x]
  simp only[L128_2,zS,aS,mF,am,fr,bz,ld_97,jC,br,ag,p1,p2,p3,p4,z,a,f,A,aJ,pA,aW u,q,aj];first|exact l _ e|exact fin _ e
 ·have T:o.1=9:=dB;by_cases B:gP m h o.2.2.2.1=o.2.2.2.2.1
  ·have ev:(gP m h o.2.2.2.1==o.2.2.2.2.1)=true:=by rw[B];exact beq_self_eq_true _
   have e:fD m nn o h=dU m h o.2.2.2.1 o.2.2.2.2.2:=by
    rw[fD,s];simp only;rw[bV dB,bV dB,bV dB,bV u,bV x,bU T,bU B]
   simp only[L128_2,zS,aS,mF,am,fr,mh,bz,ld_97,jC,br,ag,p1,p2,p3,p4,z,a,f,A,aJ,pA,op_5,aW u,aW x,ev];first|exact l _ e|exact fin _ e
  ·have e:fD m nn o h=m:=by
    rw[fD,s];simp only;rw[bV dB,bV dB,bV dB,bV u,bV x,bU T,bV B]
   simp only[L128_2,zS,aS,mF,am,fr,bz,ld_97,jC,br,ag,p1,p2,p3,p4,z,a,f,A,aJ,pA,aW u,aW x,aW B];rw[e];exact⟨by first|rfl|trivial,F,I,aO.bL C⟩
end
section
variable{W w:World}{g g6 g7:Nat}{m:dI}{x:RfV}{F:Fp}{K:Nat}{o:eu}{h:eN}{d:qL}{nn:Nat}
theorem l_rDoes1(E:ad [] W w)(I:jx w g (aL m) F)(f:Wf m K)(G:K<=1000000)(x:hp w g6=some (.cells (cI o).toArray 37))(y:hp w g7=some (.cells (ba h).toArray 32)){i:Nat}{r:fL}{k:Nat}{L:List Int}{j:Nat}(O:ObjAt m h o.2.2.2.1 i r k L j)(H:m.hands[nn]? =some d)(J:o.1=7\/o.1=8\/o.1=9):
  P128_1 (bS g) (bS g6) (bS g7) (bN i) (.bool true) w λv w'=>v= .tuple #[]/\∃F',jx w' g (aL (fD m nn o h)) F'/\aO F F' W w':=by
 apply L128_1_ok;have z:ad [] w w.drew:=(ad.refl _ _).drew;obtain⟨s,Y,rv,Z,hh,R⟩:=(I.ao z).rd;obtain⟨Fr,l⟩:=R.rT;obtain⟨b,c,rfl,cv,wv,ov,Q⟩:=rr_at l O.rf;obtain⟨A,M,rfl,q⟩:=lf Q.cT;have P:i<(aL m).rgs.length:=(bY.1 O.rf).1;have B:=oP (b:=b) (p:=0) (n:=(aL m).rgs.length) (c:=c) (j:= .i64) (i:=(i:Int)) dB dB;rw[cj,cM]at B;have t:an (hp w g) (0+9)=some (.slice (some ⟨b,0,none⟩) (aL m).rgs.length c):=R.rl;have S:=O.jl;have T:=O.wl;have W2:=f.w2;have u:r.chunks.length<=1000000:=cU (f.rg r (cD O.ri)).cl G;have e:=c_rAt (w:=w.drew) (p:=(r,ft m r.nm)) (c:=M) (wv:=wv) (ov:=ov) q u h.2.2.1;rw[show nc (r,ft m r.nm).1.chunks h.2.2.1=(k:Int)from O.ix]at e;have U:(ba h).toArray[0+2]? =some (bN h.2.2.1):=rfl;have C:(ba h).toArray[0+3]? =some (bN h.2.2.2.1):=rfl;simp only[L128_1,zS,bc,eX,hC,aS,bz,ag,x,y,lV,U,C,t,B,ld_rg Q,aj,O.jn,ap (n:=(j:Int)) dB dB];repeat' (with_reducible apply And.intro)
 all_goals
  refine e.mono ?_;rintro _ w3 ⟨rfl,V⟩;have a:=z.trans V;have D:=a.at x (by simp);have X:=a.at y (by simp);try simp only[zS,D,X,lV,C,aj,O.jn,ap (n:=(j:Int)) dB dB]
  exact l_rDoes2 (E.trans a) (I.ao a) f D O H J
theorem qz{b n c:Nat}{i:Int}(a:0<=i)(d:i<n):ai prog (Instr.indexAt 22 (.slice (some ⟨b,0,none⟩) n c) (bN i))=some (.pointer (some ⟨b,i.toNat,none⟩)):=by
 have:=ia_22 (b:=b) (p:=0) (n:=n) (c:=c) (j:= .i64) (i:=i) a d;rw[cM,dr]at this;exact this
theorem l_rDoes0(hc:ad [] W w)(I:jx w g (aL m) F)(Wm:Wf m K)(hK:K<=1000000)(b7:Wn m K)(U:hp w g6=some (.cells (cI o).toArray 37))(h7:hp w g7=some (.cells (ba h).toArray 32))(f7:¬F g7)(hm:lK m nn o=true)(hd:m.hands[nn]? =some d)(hr:bI m d o h=0){ix:Int}(b8:gu o.1≠0->∃i,ec m.rgs (dO h)=some i/\ix=i):
  P128_0 (bS g) (bN nn) (bS g6) (bS g7) (bN ix) w λv w'=>v= .tuple #[]/\∃F',jx w' g (aL (fD m nn o h)) F'/\aO F F' W w':=by
 apply L128_0_ok;obtain⟨n0,n1,o0⟩:=may_n hm;obtain⟨ka,kb⟩:=may_k hm;have V:=(jv hr).2;have hD:=Wm.hd d (cD hd);have a5:m.hands[(nn:Int).toNat]? =some d:=hd;have T:fD m nn o h=if o.1=3 then gA m nn {d with depth:=d.depth+1}
  else if o.1=4 then gA m nn (if d.depth-1=0 then{depth:=0,holds:= []}else{d with depth:=d.depth-1})
  else if o.1=5 then(if eI d h then m else gA m nn {d with holds:=d.holds++ [dO h]})
  else if o.1=7 then dU m h o.2.2.2.1 o.2.2.2.2.1
  else if o.1=8 then dU m h o.2.2.2.1 (IntKind.u64.wrap (gP m h o.2.2.2.1+o.2.2.2.2.1))
  else if o.1=9 then(if gP m h o.2.2.2.1=o.2.2.2.2.1 then dU m h o.2.2.2.1 o.2.2.2.2.2 else m)
  else if o.1=10 then(match m.slots[h.1.toNat]? with|some p=>{m with slots:=m.slots.set h.1.toNat (if m.loose then 0 else 2,p.2)}|none=>m)
  else m:=by rw[fD,a5]<;>rfl
 have H:=(nU a5).2;have C:=(nU a5).1;rw[cj]at H C;have dl:(aL m).depth.length=m.hands.length:=by simp[aL]
 have h4:(aL m).holds.length=m.hands.length:=by simp[aL]
 have cd:ad [] w w.drew:=(ad.refl _ _).drew;have h5:hp w.drew g7=some (.cells (ba h).toArray 32):=h7;have e0:(ba h).toArray[0+0]? =some (bN h.1):=rfl;have e1:(ba h).toArray[0+1]? =some (bN h.2.1):=rfl;by_cases t:o.1=3
 ·have q:(o.1==3)=true:=by rw[t];rfl
  rw[bU t]at T;obtain⟨b,c,hl,b9,c4,X,x⟩:=I.oQ (k:=10) (L:=(aL m).depth) rfl H;obtain⟨ok,F1,t1,Y⟩:=x (d.depth+1);have ia:=qz (b:=b) (n:=(aL m).depth.length) (c:=c) (i:=(nn:Int)) n0 (by rw[dl];exact n1);rw[cj]at ia;have J:an (hp w g) (0+10)=some (.slice (some ⟨b,0,none⟩) (aL m).depth.length c):=hl;simp only[L128_0,zS,am,ag,U,aJ,q,mB,aK,J,ia,X,aj,ap (n:=d.depth+1) (by rw[dR,bV dB,bU t]at V;omega) (by rw[dR,bV dB,bU t]at V;omega)];rw[gB rfl rfl ok,T,rf_setHd];have hs:(aL m).holds.set nn d.holds=(aL m).holds:=kZ C;simp only[hs];exact⟨by first|rfl|trivial,F1,t1,Y.pre hc⟩
 by_cases D:o.1=4
 ·have q:(o.1==4)=true:=by rw[D];rfl
  rw[bV t,bU D]at T;obtain⟨b,c,hl,b9,c4,X,x⟩:=I.oQ (k:=10) (L:=(aL m).depth) rfl H;obtain⟨ok,F1,t1,Y⟩:=x (d.depth-1);have ia:=qz (b:=b) (n:=(aL m).depth.length) (c:=c) (i:=(nn:Int)) n0 (by rw[dl];exact n1);rw[cj]at ia;have J:an (hp w g) (0+10)=some (.slice (some ⟨b,0,none⟩) (aL m).depth.length c):=hl;have I1:jx (put w b ((dL (hp w b)).setIfInBounds nn (bN (d.depth-1))) (dM (hp w b))) g {aL m with depth:=(aL m).depth.set nn (d.depth-1)} F1:=t1;have c5:((aL m).depth.set nn (d.depth-1))[nn]? =some (d.depth-1):=by rw[cR,bU rfl,bU (bY.1 H).1]
  simp only[L128_0,zS,am,ag,U,aJ,aW t,q,mB,aK,J,ia,X,aH,ap (n:=d.depth-1) (by rw[dR,bV dB,bV t,bU D]at V;omega) (by rw[dR,bV dB,bV t,bU D]at V;omega)];rw[gB rfl rfl ok,T];generalize put w b ((dL (hp w b)).setIfInBounds nn (bN (d.depth-1))) (dM (hp w b))=w1 at*;obtain⟨b1,c1,e8,h1,_,a3,_⟩:=I1.oQ (k:=10) (L:=(aL m).depth.set nn (d.depth-1)) rfl c5;have a4:an (hp w1 g) (0+10)=some (.slice (some ⟨b1,0,none⟩) (aL m).depth.length c1):=by have:=e8;rw[cE]at this;exact this
  have a6:=qz (b:=b1) (n:=(aL m).depth.length) (c:=c1) (i:=(nn:Int)) n0 (by rw[dl];exact n1);rw[cj]at a6;by_cases hz:d.depth-1=0
  ·have e:(d.depth-1==0)=true:=by rw[hz];rfl
   obtain⟨y,Z,v2,c6,M,_,_,_,Q,_,f⟩:=I1.holdPut (nn:=nn) (l:=d.holds) C;have E:=ia_180 (b:=y) (p:=0) (n:=(aL m).holds.length) (c:=Z) (j:= .i64) (i:=(nn:Int)) dB dB;rw[cj,cM,dr]at E;obtain⟨S,s1,s2,_,F2,t3,t4⟩:=f w1 cL [] (.slice none 0 0) ⟨bl.refl _ _,λk hk=>hk.elim⟩ aZ.nil;have B:an (hp w1 g) (0+11)=some (.slice (some ⟨y,0,none⟩) (aL m).holds.length Z):=M;simp only[zS,nu,ag,a4,a6,a3,e,tC,B,E];rw[st_161 s1 s2 S,bU hz,rf_setHd];have e2:(d.depth-1:Int)=0:=hz;rw[e2]at t3;exact⟨by first|rfl|trivial,F2,t3,(Y.trans t4).pre hc⟩
  ·simp only[zS,ag,a4,a6,a3,aW hz];rw[bV hz,rf_setHd];have hs:(aL m).holds.set nn d.holds=(aL m).holds:=kZ C;simp only[hs];exact⟨by first|rfl|trivial,F1,I1,Y.pre hc⟩
 by_cases k5:o.1=5
 ·have q:(o.1==5)=true:=by rw[k5];rfl
  rw[bV t,bV D,bU k5]at T;obtain⟨s,gn,rv,dd,hh,R⟩:=I.rd;simp only[L128_0,zS,am,ag,U,aJ,aW t,aW D,q,bu,gm,h7,e0,e1];refine(c_rHas R n0 (by rw[cj];exact C) dB (dO h)).step ?_;rw[show decide (dO h∈d.holds)=eI d h from rfl];cases hv:eI d h with
  |true=>
   simp only[zS];rw[T,bU hv];exact⟨by first|rfl|trivial,F,I,aO.bL hc⟩
  |false=>
   rw[bV (by rw[hv];simp)]at T;obtain⟨y,Z,v2,c6,M,c7,_,_,Q,c8,f⟩:=(I.ao cd).holdPut (nn:=nn) (l:=d.holds) C;have E:=ia_180 (b:=y) (p:=0) (n:=(aL m).holds.length) (c:=Z) (j:= .i64) (i:=(nn:Int)) dB dB;rw[cj,cM,dr]at E;have B:an (hp w g) (0+11)=some (.slice (some ⟨y,0,none⟩) (aL m).holds.length Z):=M;have a7:an (hp w y) nn=some v2:=Q;obtain⟨c9,_⟩:=gN c8;simp only[zS,nu,tC,kW,B,E,a7,h7,e0,e1,tG];have fin:∀(x':Value) (w2:World),w2.ownsRow 0 256 2 x' (d.holds.length+1) (d.holds.flatMap gD++ [bN h.1,bN h.2.1])->w.drew.grownBy w2 v2.ownBlock->hI w.drew v2 x'->
     an (hp w2 g) (0+11)=some (.slice (some ⟨y,0,none⟩) (aL m).holds.length Z)/\ck prog (Instr.storeAt 161 (.pointer (some ⟨y,nn,none⟩)) x') w2 λw'=>∃F',jx w' g (aL (fD m nn o h)) F'/\aO F F' W w':=by
    intro x' w2 ho hg a8;have d1:aZ 256 2 d.holds.length ((d.holds.flatMap gD).map kY) w.drew c6 v2:=c8;obtain⟨F2,e9,f3⟩:=l0 (vs:=gD (dO h)) d1 ho hg a8;have d2:nO (d.holds++ [dO h]) w2 F2 x':=by
     rw[nO,cq];have e:(d.holds++ [dO h]).flatMap gD=d.holds.flatMap gD++gD (dO h):=by simp
     rw[e];exact e9
    obtain⟨S,s1,s2,f4,F3,t3,t4⟩:=f w2 F2 (d.holds++ [dO h]) x' f3 d2;refine⟨by rw[f4];exact B,?_⟩;rw[st_161 s1 s2 S,T,rf_setHd];have hs:(aL m).depth.set nn d.depth=(aL m).depth:=kZ H;simp only[hs];exact⟨F3,t3,t4.pre (hc.trans cd)⟩
   have h8:=fun(x':Value) (w2:World) (a:_) (b:_) (c:_)=>fin x' w2 a b c;repeat' (with_reducible apply And.intro)
   all_goals
    refine ps_161 (λu hu=>by simp only[cV,dx,or_false]at hu;rcases hu with rfl|rfl<;>rfl) c9 dB (cQ _) λx' w2 ho hg a8=>?_;obtain⟨f1,f2⟩:=fin x' w2 ho hg a8;try simp only[zS,f1,E]
    first|exact f2|(refine cast ?_ f2;congr 1;funext w';simp)
 by_cases z:o.1=10
 ·have q:(o.1==10)=true:=by rw[z];rfl
  obtain⟨i,r,hf,a9,d3,f5⟩:=pI hr dB;obtain⟨i',d4,d5⟩:=b8 (by rw[show gu o.1=1 by rw[z];rfl];decide);rw[hf]at d4;cases d4;rw[d5];obtain⟨s0,s1,s2⟩:=slots_at f5;have G:r.nm.1=h.1:=by rw[d3];rfl
  have d6:r.nm.2=h.2.1:=by rw[d3];rfl
  have d7:0<=h.1:=s0;have d8:h.1<m.slots.length:=s1;have a1:m.slots[r.nm.1.toNat]? =some (1,h.2.1):=by rw[G];exact s2
  have hx:(aL m).rgs[i]? =some (r,ft m r.nm):=by rw[rgs_rf,a9];rfl
  have h9:i<(aL m).rgs.length:=(bY.1 hx).1;obtain⟨b,c,v,Fk,hl,b9,c4,h2,X,hv,x⟩:=I.qM hx (k:=4) dB (P:=kY (.bool (ft m r.nm))) rfl;obtain⟨ok,_,_,_,F1,t1,Y⟩:=x w cL (kY (.bool false)) (.bool false) (r,false) (aO.none hv.2 w) (pB ⟨rfl,rfl⟩) ⟨rfl,λ_ h=>h⟩ rfl;have ia:=oP (b:=b) (p:=0) (n:=(aL m).rgs.length) (c:=c) (j:= .i64) (i:=(i:Int)) dB dB;rw[cj,cM]at ia;simp only[L128_0,zS,am,ag,U,aJ,aW t,aW D,aW k5,q,aS,bz,hl,ia,jc];rw[st_4 (o:=i*8+4) rfl rfl ok];have b4:=Y.ao h7 f7;generalize put w b ((dL (hp w b)).setIfInBounds (i*8+4) (.bool false)) (dM (hp w b))=w1 at*;have d9:ad [] w1 w1.drew:=(ad.refl _ _).drew;have b5:(aL m).state.length=m.slots.length:=by simp[aL]
  have f6:(aL m).state[h.1.toNat]? =some 1:=by rw[<- G];simp[aL,a1]
  have I1:jx w1.drew g {aL m with rgs:=(aL m).rgs.set i (r,false)} F1:=jx.ao t1 d9;obtain⟨y,Z,M,c7,h3,Q,f⟩:=I1.oQ (k:=7) (L:=(aL m).state) rfl f6;obtain⟨S,F2,t3,t4⟩:=f 2;have f9:=qz (b:=y) (n:=(aL m).state.length) (c:=Z) (i:=h.1) d7 (by rw[b5];exact d8);have e3:an (hp w1 g) (0+7)=some (.slice (some ⟨y,0,none⟩) (aL m).state.length Z):=M;have g1:hp w1.drew g7=some (.cells (ba h).toArray 32):=b4.1;simp only[zS,mz,aK,e3,bu,ag,b4.1,e0,f9];rw[gB (o:=h.1.toNat) rfl rfl S];have g2:=t4.ao g1 b4.2;have I2:jx (put w1.drew y ((dL (hp w1.drew y)).setIfInBounds h.1.toNat (bN 2)) (dM (hp w1.drew y))) g {aL m with rgs:=(aL m).rgs.set i (r,false),state:=(aL m).state.set h.1.toNat 2} F2:=t3;have u2:=(Y.trans (t4.pre d9)).pre hc;generalize put w1.drew y ((dL (hp w1.drew y)).setIfInBounds h.1.toNat (bN 2)) (dM (hp w1.drew y))=w2 at*;obtain⟨_,_,_,_,_,R2⟩:=I2.rd;have ml:an (hp w2 g) (0+6)=some (.bool m.loose):=R2.l;have e4:fD m nn o h={m with slots:=m.slots.set r.nm.1.toNat (if m.loose then 0 else 2,h.2.1)}:=by
   rw[T,bV t,bV D,bV k5,bV dB,bV dB,bV dB,bU z,G,<-G,a1]
  by_cases a2:m.loose=true
  ·rw[a2]at ml;have e5:ad [] w2 w2.drew:=(ad.refl _ _).drew;have e6:((aL m).state.set h.1.toNat 2)[h.1.toNat]? =some 2:=by rw[cR,bU rfl,bU (by rw[b5];omega)]
   obtain⟨b3,c3,g3,_,_,_,b6⟩:=(I2.ao e5).oQ (k:=7) (L:=(aL m).state.set h.1.toNat 2) rfl e6;obtain⟨g4,F3,t5,t6⟩:=b6 0;have e7:an (hp w2 g) (0+7)=some (.slice (some ⟨b3,0,none⟩) (aL m).state.length c3):=by have:=g3;rw[cE]at this;exact this
   have g5:=qz (b:=b3) (n:=(aL m).state.length) (c:=c3) (i:=h.1) d7 (by rw[b5];exact d8);simp only[zS,fa_182_1,az,ml,e7,g2.1,e0,g5];rw[gB (o:=h.1.toNat) rfl rfl g4,e4,bU a2];have:=rf_free (v:=0) (q:=(1,h.2.1)) b7 a9 a1 d6 dC;simp only at this;rw[this,G];rw[List.set_set]at t5;exact⟨by first|rfl|trivial,F3,t5,u2.trans (t6.pre e5)⟩
  ·have g9:m.loose=false:=by simpa using a2
   rw[g9]at ml;simp only[zS,fa_182_1,az,ml];rw[e4,bV a2];have:=rf_free (v:=2) (q:=(1,h.2.1)) b7 a9 a1 d6 dC;simp only at this;rw[this,G];exact⟨by first|rfl|trivial,F2,I2,u2⟩
 have A:o.1=7\/o.1=8\/o.1=9->P128_1 (bS g) (bS g6) (bS g7) (bN ix) (.bool true) w λv w'=>v= .tuple #[]/\∃F',jx w' g (aL (fD m nn o h)) F'/\aO F F' W w':=by
  intro hk;obtain⟨t1,Y⟩:=pH hr dB dB;obtain⟨i,hf,rfl⟩:=b8 (by rw[gu,bV dB,bU ⟨dB,dB⟩];decide);obtain⟨i',r,k,L,j,O⟩:=obj_at Wm t1 o0 Y;have:i'=i:=by have:=O.fi;rw[hf]at this;exact(Option.some.inj this).symm
  subst this;exact l_rDoes1 hc I Wm hK U h7 O hd hk
 by_cases k7:o.1=7
 ·have q:(o.1==7)=true:=by rw[k7];rfl
  simp only[L128_0,zS,am,ag,U,aJ,aW t,aW D,aW k5,aW z,q];exact A (.inl k7)
 by_cases k8:o.1=8
 ·have q:(o.1==8)=true:=by rw[k8];rfl
  simp only[L128_0,zS,am,ag,U,aJ,aW t,aW D,aW k5,aW z,aW k7,q];exact A (.inr (.inl k8))
 by_cases k9:o.1=9
 ·have q:(o.1==9)=true:=by rw[k9];rfl
  simp only[L128_0,zS,am,ag,U,aJ,aW t,aW D,aW k5,aW z,aW k7,aW k8,q];exact A (.inr (.inr k9))
 ·simp only[L128_0,zS,am,ag,U,aJ,aW t,aW D,aW k5,aW z,aW k7,aW k8,aW k9];apply L128_1_ok;simp only[L128_1,zS];rw[T,bV t,bV D,bV k5,bV k7,bV k8,bV k9,bV z];exact⟨by first|rfl|trivial,F,I,aO.bL hc⟩
end
section
variable{W w:World}{g g6 g7:Nat}{m:dI}{x:RfV}{F:Fp}{K:Nat}{o:eu}{h:eN}{d:qL}{nn:Nat}{r:jI}
theorem jx.notF(I:jx W g x F){y:Nat}(h:W.heap.size<=y):¬F y:=λa=>by have:=eR.lt I (gp x) y a;omega
theorem known_find(a:eA m h (gu o.1)=true):∃i,ec m.rgs (dO h)=some i:=by
 unfold eA at a;split at a
 ·cases a
 ·rename_i i b;exact⟨i,b⟩
theorem rf_len(m:dI):(aL m).rgs.length=m.rgs.length:=by simp[aL]
theorem c_rDoes(I:jx w g (aL m) F)(f:Wf m K)(j:K<=1000000)(a:Wn m K)(q:lK m nn o=true)(r:m.hands[nn]? =some d)(k:bI m d o h=0):
  aa prog 128 [bS g,bN nn,.agg (cI o).toArray,.agg (ba h).toArray] w λv w'=>v= .tuple #[]/\∃F',jx w' g (aL (fD m nn o h)) F'/\aO F F' w w':=by
 apply F128_ok;simp only[F128,ak,aq,ah];generalize c:(w.alloc (.cells (cI o).toArray 37)).alloc _=w1;have b:ad [] w w1:=by rw[<- c];exact((ad.refl _ _).alloc _).alloc _
 have l:hp w1 w.heap.size=some (.cells (cI o).toArray 37):=by rw[<- c,af,ah,bV dB,af,bU rfl]
 have n:hp w1 (w.heap.size+1)=some (.cells (ba h).toArray 32):=by rw[<- c,af,ah,bU rfl]
 clear c;have s:¬F (w.heap.size+1):=I.notF dB;have u:(ba h).toArray[0+0]? =some (bN h.1):=rfl;have x:(ba h).toArray[0+1]? =some (bN h.2.1):=rfl;simp only[zS,am,ag,l,aJ];refine(c_Of o.1 w1).step ?_;by_cases e:gu o.1=0
 ·have p:(gu o.1 !=0)=false:=by rw[e];rfl
  simp only[zS,p];exact l_rDoes0 b (I.ao b) f j a l n s q r k (λh=>absurd e h)
 ·have p:(gu o.1 !=0)=true:=bne_iff_ne.2 e;obtain⟨i,t⟩:=known_find ((jv k).1.resolve_left e);obtain⟨D,y,z,A,B,C⟩:=(I.ao b).rd;simp only[zS,p,bu,gm,ag,n,u,x];refine(c_rFind C (dO h) (by rw[rf_len];exact cU f.rl j)).step ?_;rw[findX_rf,t];exact l_rDoes0 b (I.ao b) f j a l n s q r k (λ_=>⟨i,t,rfl⟩)
theorem rrs_grown{L:List (fL×Bool)}{w':World}{y d:Value}{xs:List Value}(j:tN L w F y)(a:w.ownsRow 0 250 8 y L.length xs)(nm:iH)(cls:Int)
  (l:w'.ownsRow 0 250 8 d (L.length+1) (xs++ [bN nm.1,bN nm.2,bN cls,bN 0,.bool true,.slice none 0 0,.slice none 0 0,.slice none 0 0])) (n:w.grownBy w' y.ownBlock) (e:hI w y d):
  ∃F',tN (L++ [(⟨nm,cls,0, [], [], []⟩,true)]) w' F' d/\aO F F' w w':=by
 have o:fX w (rrT (⟨nm,cls,0, [], [], []⟩,true)) [bN nm.1,bN nm.2,bN cls,bN 0,.bool true,.slice none 0 0,.slice none 0 0,.slice none 0 0] (λ_=>cL):=by
  refine⟨rfl,λk P v g p=>?_,λ_ _ _ _ _ b hb _=>hb⟩;have c:=(bY.1 g).1;rw[sN]at c;have f:k=0\/k=1\/k=2\/k=3\/k=4\/k=5\/k=6\/k=7:=dB;rcases f with rfl|rfl|rfl|rfl|rfl|rfl|rfl|rfl<;>cases g<;>cases p
  ·exact⟨rfl,λ_ h=>h⟩
  ·exact⟨rfl,λ_ h=>h⟩
  ·exact⟨rfl,λ_ h=>h⟩
  ·exact⟨rfl,λ_ h=>h⟩
  ·exact⟨rfl,λ_ h=>h⟩
  ·exact aZ.nil
  ·exact aZ.nil
  ·exact aZ.nil
 obtain⟨F',q,i,_⟩:=aZ.grow (G:=cL) (m:=1) j (iK L) (good_rr _) o (λb=>⟨λh=>h.elim,fun⟨_,_,h⟩=>h⟩) (λ_ _ h=>h) (λr s=>by rw[qu s a];exact l) n e;refine⟨F',?_,⟨i.aF.mono λk c=>c.resolve_right id,λk c=>(i.sub k c).imp (·.resolve_right id) id⟩⟩;rw[tN,cq,List.flatMap_append];simpa using q
theorem rf_create(g:Wn m K){s:Nat}{p:iH}(d:m.slots[s]? =some p)(q:p.1=0)(cls:Int)(r:aY p.2=p.2+1):
  aL {m with slots:=m.slots.set s (1,aY p.2),rgs:=m.rgs++ [⟨((s:Int),aY p.2),cls,0, [], [], []⟩]}=
   {aL m with state:=(aL m).state.set s 1,gen:=(aL m).gen.set s (aY p.2),rgs:=(aL m).rgs++ [(⟨((s:Int),aY p.2),cls,0, [], [], []⟩,true)]}:=by
 have f:=(bY.1 d).1;have lvN:ft {m with slots:=m.slots.set s (1,aY p.2),rgs:=m.rgs++ [⟨((s:Int),aY p.2),cls,0, [], [], []⟩]} ((s:Int),aY p.2)=true:=by
  unfold ft;simp only[cE,cj];rw[cr dB,Bool.true_and];exact cr (by rw[cR,bU rfl,bU f])
 have i:∀x∈m.rgs,ft {m with slots:=m.slots.set s (1,aY p.2),rgs:=m.rgs++ [⟨((s:Int),aY p.2),cls,0, [], [], []⟩]} x.nm=ft m x.nm:=λx j=>by
  obtain⟨a,b,c,n⟩:=g.gn x j;unfold ft;simp only[cE];congr 1;by_cases k:s=x.nm.1.toNat
  ·have l:m.slots[x.nm.1.toNat]? =some p:=by rw[<- k];exact d
   have o:(m.slots.set s (1,aY p.2))[x.nm.1.toNat]? =some (1,aY p.2):=by rw[<- k,cR,bU rfl,bU f]
   have:=n p l;rw[bZ (by rw[o];intro e;have:=(Prod.mk.inj (Option.some.inj e)).2;omega),bZ (by rw[l];intro e;have:=congrArg Prod.fst (Option.some.inj e);simp only at this;omega)]
  ·have:(m.slots.set s (1,aY p.2))[x.nm.1.toNat]? =m.slots[x.nm.1.toNat]? :=by rw[cR,bV k]
   rw[this]
 unfold aL;simp only[List.map_set,List.map_append,List.map_cons,List.map_nil,lvN];congr 1;congr 1;exact List.map_congr_left λx j=>by rw[i x j]
theorem c_rCreate(I:jx w g (aL m) F)(Wm:Wf m K)(x:Wn m K)(hK:K+1<=1000000)(o:eu)(r:jI):
  aa prog 129 [bS g,.agg (cI o).toArray,.agg (gw r).toArray] w λv w'=>v= .bool (bT m o.2.2.2.1 r).1/\∃F',jx w' g (aL (bT m o.2.2.2.1 r).2) F'/\aO F F' w w':=by
 apply F129_ok;simp only[F129,ak,aq,ah];generalize hw:(w.alloc (.cells (cI o).toArray 37)).alloc _=w1;have j:ad [] w w1:=by rw[<- hw];exact((ad.refl _ _).alloc _).alloc _
 have a4:hp w1 w.heap.size=some (.cells (cI o).toArray 37):=by rw[<- hw,af,ah,bV dB,af,bU rfl]
 have D:hp w1 (w.heap.size+1)=some (.cells (gw r).toArray 35):=by rw[<- hw,af,ah,bU rfl]
 clear hw;have f4:¬F w.heap.size:=I.notF (cy _);have d:=I.ao j;obtain⟨s,gn,rv,dd,hh,R⟩:=d.rd;have a7:be prog .eql 35 (.tmp 9) (.tmp 10) (.agg (gw r).toArray) (.agg (gw (bn 7)).toArray)=some (.bool (decide (r=bn 7))):=be_rs r (bn 7);have a8:an (hp w1 g) (0+6)=some (.bool m.loose):=R.l;simp only[eP D,ac,tj,a7];by_cases e:r=bn 7
 ·have q:bT m o.2.2.2.1 r=(m.loose||decide (gf m.slots=0),m):=by rw[bT,bU e]
  simp only[cr e,zS,fa_182_1,az,a8];rw[q];by_cases E:m.loose=true
  ·simp only[E,zS];exact⟨by simp,F,d,aO.bL j⟩
  ·have a9:m.loose=false:=by simpa using E
   simp only[a9,zS];refine(c_rSpare R (by simp only[aL,List.length_map];exact Wm.sl)).step ?_;rw[rf_spare];simp only[zS];refine⟨?_,F,d,aO.bL j⟩;by_cases hz:gf m.slots=0
   ·rw[hz];rfl
   ·rw[aW (show(gf m.slots:Int)≠0 by omega),bZ hz];rfl
 ·have G:¬(0<=r.2.1.1/\r.2.1.1<m.slots.length)->bT m o.2.2.2.1 r=(false,m):=λh=>by rw[bT,bV e,bV h]
  have y:an (hp w1 g) (0+0+3)=some (bN m.slots.length):=by
   rw[<- x.cs];exact R.c 3 dB
  have b1:(aL m).state.length=m.slots.length:=by simp[aL]
  have b2:(aL m).gen.length=m.slots.length:=by simp[aL]
  by_cases s0:r.2.1.1<0
  ·simp only[bZ e,zS,iS,bu,ag,D,rs_1,s0];rw[G dB];exact⟨by first|rfl|trivial,F,d,aO.bL j⟩
  by_cases s1:(m.slots.length:Int)<=r.2.1.1
  ·simp only[bZ e,zS,iS,bu,fC,gj,ag,D,rs_1,s0,y,s1];rw[G dB];exact⟨by first|rfl|trivial,F,d,aO.bL j⟩
  obtain⟨p,a⟩:∃p,m.slots[r.2.1.1.toNat]? =some p:=⟨_,bX dB⟩
  have H:(aL m).state[r.2.1.1.toNat]? =some p.1:=by simp[aL,a]
  have J:(aL m).gen[r.2.1.1.toNat]? =some p.2:=by simp[aL,a]
  obtain⟨b,c,hl,b3,d4,M,c4⟩:=d.oQ (k:=7) (L:=(aL m).state) rfl H;obtain⟨f,c8,O,c5,c6,Q,_⟩:=d.oQ (k:=8) (L:=(aL m).gen) rfl J;have z:an (hp w1 g) (0+7)=some (.slice (some ⟨b,0,none⟩) (aL m).state.length c):=hl;have t:an (hp w1 g) (0+8)=some (.slice (some ⟨f,0,none⟩) (aL m).gen.length c8):=O;have ia:=qz (b:=b) (n:=(aL m).state.length) (c:=c) (i:=r.2.1.1) dB (by rw[b1];omega);have S:=qz (b:=f) (n:=(aL m).gen.length) (c:=c8) (i:=r.2.1.1) dB (by rw[b2];omega);by_cases T:p.1=0
  ·have e0:(p.1 !=0)=false:=by rw[T];rfl
   have U:an (hp w1 b) r.2.1.1.toNat=some (bN p.1):=M;have pg:=Wm.sg p (cD a);have pk:=x.gk p (cD a);have V:aY p.2=p.2+1:=by rw[aY,bU dB]
   have q:bT m o.2.2.2.1 r=if r=(0,(r.2.1.1,aY p.2,0,0,0),0,0)then
     (true,{m with slots:=m.slots.set r.2.1.1.toNat (1,aY p.2),rgs:=m.rgs++ [⟨(r.2.1.1,aY p.2),o.2.2.2.1,0, [], [], []⟩]})else(false,m):=by
    rw[bT,bV e,bU dB,a];simp only[ne_eq,T,not_true_eq_false,if_false]
   have W:be prog .neq 35 (.tmp 53) (.tmp 57) (.agg (gw r).toArray) (.agg (gw (0,(r.2.1.1,aY p.2,0,0,0),0,0)).toArray)=some (.bool (!decide (r=(0,(r.2.1.1,aY p.2,0,0,0),0,0)))):=be_nrs r (0,(r.2.1.1,aY p.2,0,0,0),0,0);simp only[bZ e,zS,iS,bu,fC,mz,fa_182_3,gj,ag,aK,D,rs_1,s0,y,s1,z,ia,U,e0,t,S,Q];refine(c_rLater p.2 pg.2 w1 pg.1).step ?_;simp only[zS,eP D,bdh_01,bdr_1,W];by_cases hr:r=(0,(r.2.1.1,aY p.2,0,0,0),0,0)
   ·rw[bU hr]at q;rw[q];have cd:ad [] w1 w1.drew:=(ad.refl _ _).drew;have b4:=d.ao cd;obtain⟨bb,cc,X,c7,c9,_,A⟩:=b4.oQ (k:=7) (L:=(aL m).state) rfl H;rw[show an (hp w1.drew g) 7=_ from hl]at X;cases X;obtain⟨ok,F1,t1,t2⟩:=A 1;simp only[cr hr,zS,z,t,ia,S];rw[gB (o:=r.2.1.1.toNat) rfl rfl ok];have Y:=t2.ao (show hp w1.drew w.heap.size=_ from a4) f4;have I2:jx (put w1.drew b ((dL (hp w1.drew b)).setIfInBounds r.2.1.1.toNat (bN 1)) (dM (hp w1.drew b))) g {aL m with state:=(aL m).state.set r.2.1.1.toNat 1} F1:=t1;have Z:an (hp (put w1.drew b ((dL (hp w1.drew b)).setIfInBounds r.2.1.1.toNat (bN 1)) (dM (hp w1.drew b))) g) 8=some (.slice (some ⟨f,0,none⟩) (aL m).gen.length c8):=by rw[bj (Ne.symm b3)];exact O
    generalize put w1.drew b ((dL (hp w1.drew b)).setIfInBounds r.2.1.1.toNat (bN 1)) (dM (hp w1.drew b))=w2 at*;obtain⟨bg,cg,a1,d1,_,_,B⟩:=I2.oQ (k:=8) (L:=(aL m).gen) rfl J;rw[Z]at a1;cases a1;obtain⟨b5,F2,t3,t4⟩:=B (aY p.2);rw[gB (o:=r.2.1.1.toNat) rfl rfl b5];have b6:=t4.ao Y.1 Y.2;have I3:jx (put w2 f ((dL (hp w2 f)).setIfInBounds r.2.1.1.toNat (bN (aY p.2))) (dM (hp w2 f))) g {aL m with state:=(aL m).state.set r.2.1.1.toNat 1,gen:=(aL m).gen.set r.2.1.1.toNat (aY p.2)} F2:=t3;generalize put w2 f ((dL (hp w2 f)).setIfInBounds r.2.1.1.toNat (bN (aY p.2))) (dM (hp w2 f))=w3 at*;have a2:ad [] w3 w3.drew:=(ad.refl _ _).drew;obtain⟨v,Fk,d2,d5,b7,b9,C⟩:=eR.repl (I3.ao a2) (gp _) (k:=9) (P:=tN (aL m).rgs) rfl;have a3:an (hp w3 g) (0+9)=some v:=b7;obtain⟨xs,Fs,q1,q2,q3,q4⟩:=b9;have d3:(aL m).rgs.length=m.rgs.length:=rf_len m;have d6:=Wm.rl;simp only[zS,aS,bc,bz,ag,a3,b6.1,lV,bd_250_0_1_2_4];refine ps_179 (λu hu=>by simp only[cV,dx,or_false]at hu;rcases hu with rfl|rfl|rfl|rfl|rfl|rfl|rfl|rfl<;>rfl) q1 dB (cQ _) λy' w4 ho hg c2=>?_;obtain⟨F3,r1,r2⟩:=rrs_grown (nm:=(r.2.1.1,aY p.2)) (cls:=o.2.2.2.1) (L:=(aL m).rgs) ⟨xs,Fs,q1,q2,q3,q4⟩ q1 ho hg c2;obtain⟨c3,z1,z2,_,F4,t5,t6⟩:=C w4 F3 (tN ((aL m).rgs++ [(⟨(r.2.1.1,aY p.2),o.2.2.2.1,0, [], [], []⟩,true)])) y' r2 (good_rrs _) r1;rw[st_179 (o:=0+9) z1 z2 c3];have a6:((r.2.1.1.toNat:Nat):Int)=r.2.1.1:=dB;have rc:=rf_create (s:=r.2.1.1.toNat) x a T o.2.2.2.1 V;rw[a6]at rc;rw[rc];exact⟨by first|rfl|trivial,F4,t5,((t2.trans t4).pre (j.trans cd)).trans (t6.pre a2)⟩
   ·rw[bV hr]at q;simp only[bZ hr,zS];rw[q];exact⟨by first|rfl|trivial,F,d,aO.bL j⟩
  ·have e0:(p.1 !=0)=true:=bne_iff_ne.2 T;have q:bT m o.2.2.2.1 r=(false,m):=by
    rw[bT,bV e,bU dB,a];simp only[ne_eq,T,not_false_eq_true,if_true]
   simp only[bZ e,zS,iS,bu,fC,mz,gj,ag,aK,D,rs_1,s0,y,s1,z,ia,M,e0];rw[q];exact⟨by first|rfl|trivial,F,d,aO.bL j⟩
end
section
variable{W w:World}{g g7 o8:Nat}{m:dI}{x:RfV}{F F0:Fp}{K:Nat}{o:eu}{h:eN}{i:Nat}{p:fL×Bool}{want:eN}{need:Int}{r:jI}
theorem ia_rgs{b n c:Nat}(a:i<n):ai prog (Instr.indexAt 179 (.slice (some ⟨b,0,none⟩) n c) (bN i))=some (.pointer (some ⟨b,i*8,none⟩)):=by
 have:=oP (b:=b) (p:=0) (n:=n) (c:=c) (j:= .i64) (i:=(i:Int)) dB dB;rw[cj,cM]at this;exact this
theorem set_rr{y z:fL×Bool}(x:RfV):{({x with rgs:=x.rgs.set i y}:RfV)with rgs:=({x with rgs:=x.rgs.set i y}:RfV).rgs.set i z}={x with rgs:=x.rgs.set i z}:=by simp[List.set_set]
theorem at_rr{y:fL×Bool}(a:x.rgs[i]? =some p):({x with rgs:=x.rgs.set i y}:RfV).rgs[i]? =some y:=by
 show(x.rgs.set i y)[i]? =_;rw[cR,bU rfl,bU (bY.1 a).1]
theorem l_rAlloc1(U:aO F0 F W w)(I:jx w g x F)(C:x.rgs[i]? =some p)(L:p.1.objs.length<=1000000)(n:hp w o8=some (.cells (ba want).toArray 32)):
  P130_1 (bS g) (bN i) (bS o8) w λv w'=>v= .bool true/\∃F',jx w' g {x with rgs:=x.rgs.set i ({p.1 with objs:=p.1.objs++ [want]},p.2)} F'/\aO F0 F' W w':=by
 apply L130_1_ok;have D:ad [] w w.drew:=(ad.refl _ _).drew;have q:=(bY.1 C).1;obtain⟨b,c,v,V,E,M,_,_,r,G,d⟩:=(I.ao D).qM C (k:=7) dB (P:=oF p.1.objs) rfl;have s:an (hp w g) (0+9)=some (.slice (some ⟨b,0,none⟩) x.rgs.length c):=E;have f:an (hp w b) (i*8+7)=some v:=r;have H:=ia_rgs (b:=b) (c:=c) q;have j:hp w.drew o8=some (.cells (ba want).toArray 32):=n;obtain⟨l,_⟩:=gN G;have fin:∀(x':Value) (w2:World),w2.ownsRow 0 32 5 x' (p.1.objs.length+1) (p.1.objs.flatMap ba++ba want)->w.drew.grownBy w2 v.ownBlock->hI w.drew v x'->
   an (hp w2 g) (0+9)=some (.slice (some ⟨b,0,none⟩) x.rgs.length c)/\ck prog (Instr.storeAt 76 (.pointer (some ⟨b,i*8+7,none⟩)) x') w2 λw'=>P130_3 w' λv w'=>v= .bool true/\∃F',jx w' g {x with rgs:=x.rgs.set i ({p.1 with objs:=p.1.objs++ [want]},p.2)} F'/\aO F0 F' W w':=by
  intro x' w2 t y a;obtain⟨J,z,A⟩:=l0 (vs:=ba want) G t y a;have m:oF (p.1.objs++ [want]) w2 J x':=by
   rw[oF,cq];have e:(p.1.objs++ [want]).flatMap ba=p.1.objs.flatMap ba++ba want:=by simp
   rw[e];exact z
  obtain⟨ok,O,Q,B,F3,R,S⟩:=d w2 J (oF (p.1.objs++ [want])) x' ({p.1 with objs:=p.1.objs++ [want]},p.2) A (kC _) m rfl;refine⟨by rw[B];exact E,?_⟩;rw[st_76 (o:=i*8+7) O Q ok];apply L130_3_ok;exact⟨rfl,F3,R,U.trans (S.pre D)⟩
 simp only[L130_1,zS,aS,fa_250_7,bz,ld_76,s,H,f,iU j];repeat' (with_reducible apply And.intro)
 all_goals
  refine ps_76 (λu K=>by simp only[cV,dx,or_false]at K;rcases K with rfl|rfl|rfl|rfl|rfl<;>rfl) l dB (cQ _) λx' w2 t y a=>?_;obtain⟨f1,T⟩:=fin x' w2 t y a;try simp only[zS,f1,H,fa_250_7]
  exact T
theorem l_rAlloc4(U:aO F0 F W w)(I:jx w g x F)(e:x.rgs[i]? =some p)(f:p.1.objs.length<=1000000)(j:hp w o8=some (.cells (ba want).toArray 32))(l:¬F o8):
  P130_4 (bS g) (bN i) (bS o8) (bN need) w λv w'=>v= .bool true/\∃F',jx w' g {x with rgs:=x.rgs.set i ({p.1 with off:=eC x.c.2.2.1 need,objs:=p.1.objs++ [want]},p.2)} F'/\aO F0 F' W w':=by
 apply L130_4_ok;have r:ad [] w w.drew:=(ad.refl _ _).drew;have m:=(bY.1 e).1;obtain⟨b,c,v,C,t,u,_,_,y,z,a⟩:=(I.ao r).qM e (k:=3) dB (P:=iT p.1.off) rfl;have d:an (hp w g) (0+9)=some (.slice (some ⟨b,0,none⟩) x.rgs.length c):=t;have A:=ia_rgs (b:=b) (c:=c) m;obtain⟨_,_,_,_,_,R⟩:=I.rd;have n:an (hp w g) (0+0+2)=some (bN x.c.2.2.1):=R.c 2 dB;obtain⟨ok,_,_,_,D,B,s⟩:=a w.drew cL (iT (eC x.c.2.2.1 need)) (bN (eC x.c.2.2.1 need)) ({p.1 with off:=eC x.c.2.2.1 need},p.2) (aO.none z.2 _) (fe _ _) ⟨rfl,λ_ h=>h⟩ rfl;have q:=s.ao (show hp w.drew o8=_ from j) l;have fin:=l_rAlloc1 (want:=want) (U.trans (s.pre r)) B (at_rr e) f q.1;rw[set_rr]at fin;simp only[L130_4,zS,aS,fC,eW,bz,ag,d,n];repeat' (with_reducible apply And.intro)
 all_goals
  refine(c_rAfter x.c.2.2.1 need w.drew).step ?_;simp only[zS,d,A,mD];rw[gB (o:=i*8+3) rfl rfl ok];exact fin
theorem l_rAlloc2(U:aO F0 F W w)(I:jx w g x F)(O:x.rgs[i]? =some p)(Q:p.1.objs.length<=1000000)(b8:p.1.words.length<=1000000)(w0:0<=x.c.2.2.1)(w1:x.c.2.2.1<=1024)(S:hp w o8=some (.cells (ba want).toArray 32))(T:¬F o8):
  P130_2 (bS g) (bN i) (bS o8) (bN need) w λv w'=>v= .bool true/\∃F',jx w' g {x with rgs:=x.rgs.set i ({p.1 with words:=p.1.words++ [List.replicate x.c.2.2.1.toNat 0],off:=eC x.c.2.2.1 need,objs:=p.1.objs++ [want]},p.2)} F'/\aO F0 F' W w':=by
 apply L130_2_ok;have V:ad [] w w.drew:=(ad.refl _ _).drew;have X:=(bY.1 O).1;obtain⟨b,c,Y,C,Z,b9,_,r,a1,a2,s⟩:=(I.ao V).qM O (k:=6) dB (P:=gS p.1.words) rfl;have a3:an (hp w g) (0+9)=some (.slice (some ⟨b,0,none⟩) x.rgs.length c):=Z;have D:an (hp w b) (i*8+6)=some Y:=a1;have ia:=ia_rgs (b:=b) (c:=c) X;obtain⟨_,_,_,_,_,R⟩:=I.rd;obtain⟨iu,a4,a5,E,a6⟩:=inf_33;have a7:an (hp w g) (0+0+2)=some (bN ((x.c.2.2.1.toNat:Nat):Int)):=by
  rw[show((x.c.2.2.1.toNat:Nat):Int)=x.c.2.2.1 by omega];exact R.c 2 dB
 generalize hn:x.c.2.2.1.toNat=n at*;have a8:madeCells (Value.int .u64 0).cells (n*iu.size)=(fZ (List.replicate n 0)).toArray:=by
  apply Array.toList_inj.1;rw[E,dr];have:=toList_madeCells_one (Value.int .u64 0) n;rw[fZ,List.map_replicate];exact this
 have ob:=rO (w:=w.drew) n (by unfold maxLen;omega);have n3:w.drew.heap.size=w.heap.size:=rfl;simp only[L130_2,zS,aS,fC,eW,mF,bz,ld_97,ag,a3,ia,D,a7,jm (P:=prog) (kl:= .i64) (kc:= .i64) (n:=n) Tryz.underlying139 a4 a5 (by rw[E];omega) (by rw[a6];omega) dB,a8];generalize H:w.drew.alloc (.cells (fZ (List.replicate n 0)).toArray 33)=J at*;have z:ad [] w.drew J:=by rw[<- H];exact(ad.refl _ _).alloc _
 have sA:J.heap.size=w.heap.size+1:=by rw[<- H,ah,n3]
 have K:=(gV p.1.words).frame a2 (bl.bL z cL) (λ_ _ h=>h);obtain⟨xs,Fs,q1,q2,q3,q4⟩:=K;have c1:=ff z Z;have fin:∀(q:Value) (e:World),e.ownsRow 0 139 1 q (p.1.words.length+1) (xs++ [.slice (some ⟨w.drew.heap.size,0,none⟩) n n])->J.grownBy e Y.ownBlock->hI J Y q->
   an (hp e g) (0+9)=some (.slice (some ⟨b,0,none⟩) x.rgs.length c)/\ck prog (Instr.storeAt 97 (.pointer (some ⟨b,i*8+6,none⟩)) q) e λw'=>P130_4 (bS g) (bN i) (bS o8) (bN need) w' λv w'=>v= .bool true/\∃F',jx w' g {x with rgs:=x.rgs.set i ({p.1 with words:=p.1.words++ [List.replicate n 0],off:=eC x.c.2.2.1 need,objs:=p.1.objs++ [want]},p.2)} F'/\aO F0 F' W w':=by
  intro q e t y a;have hy:fX J [mZ (List.replicate n 0)] [.slice (some ⟨w.drew.heap.size,0,none⟩) n n] (λ_=>λb=>b=w.drew.heap.size):=⟨rfl,λk P v A hv=>by
   have d:=(bY.1 A).1;have:k=0:=by simp at d;omega
   subst this;cases A;cases hv;exact ob,λj k hj d c2=>by simp at hj d;omega⟩
  have a9:∀k,C k->k<w.heap.size:=λk d=>eR.lt (I.ao V) (gp x) k (r k d);obtain⟨F5,g1,B,_⟩:=aZ.grow (G:=λb=>b=w.drew.heap.size) (m:=1) ⟨xs,Fs,q1,q2,q3,q4⟩ (λP A=>by obtain⟨l,_,rfl⟩:=List.mem_map.1 A;exact lX l) (λP A=>by rw[db.1 A];exact lX _) hy
   (λb=>⟨λh=>⟨0,by simp,h⟩,fun⟨_,_,h⟩=>h⟩) (λk d c3=>by have:=a9 k d;omega) (λc4 h'=>by rw[qu h' q1];exact t) y a
  have b1:aO C F5 w.drew e:=by
   refine⟨⟨B.aF.os.trans z.os,B.aF.tape.trans z.tape,B.aF.output.trans z.output,by have:=B.aF.size;omega,λk d hn=>?_⟩,λk d=>?_⟩
   ·rw[B.aF.block k dB (λh=>by rcases h with h|h;exact hn h;omega)];exact z.block k d (by simp)
   ·rcases B.sub k d with h|h
    ·rcases h with h|h
     ·exact .inl h
     ·exact .inr dB
    ·exact .inr dB
  have b2:gS (p.1.words++ [List.replicate n 0]) e F5 q:=by
   rw[gS,cq,List.map_append];exact g1
  obtain⟨b3,b4,b5,b6,F6,b7,L⟩:=s e F5 (gS (p.1.words++ [List.replicate n 0])) q ({p.1 with words:=p.1.words++ [List.replicate n 0]},p.2) b1 (gV _) b2 rfl;refine⟨by rw[b6];exact Z,?_⟩;rw[st_97 (o:=i*8+6) b4 b5 b3];have M:=L.ao (show hp w.drew o8=_ from S) T;have f:=l_rAlloc4 (want:=want) (need:=need) (U.trans (L.pre V)) b7 (at_rr O) Q M.1 M.2;rw[set_rr]at f;exact f
 repeat' (with_reducible apply And.intro)
 all_goals
  refine ps_97 (λu hu=>by simp only[cV,dx,or_false]at hu;rcases hu with rfl;rfl) q1 dB (cQ _) λq e t y a=>?_;obtain⟨f1,f2⟩:=fin q e t y a;try simp only[zS,f1,ia,mF]
  exact f2
end
section
variable{W w:World}{g g7 o8:Nat}{m:dI}{F F0:Fp}{K:Nat}{o:eu}{h:eN}{i:Nat}{rg:fL}{want:eN}{need:Int}{r:jI}{nn:Nat}
def rX(m:dI)(a:Int):Prop:=a<0\/m.c.2.1<=a\/jf m a=true
instance (m:dI) (ch:Int):Decidable (rX m ch):=by unfold rX;infer_instance
theorem l_rAlloc0(U:aO F0 F W w)(I:jx w g (aL m) F)(H:Wf m K)(hK:K+1<=1000000)(hi:m.rgs[i]? =some rg)(h7:hp w g7=some (.cells (gw r).toArray 35))(a:hp w o8=some (.cells (ba want).toArray 32))(J:¬F o8):
  P130_0 (bS g) (bS g7) (bN i) (.bool (dW rg m.c.2.2.1 need)) (bS o8) (bN need) w λv w'=>
   v= .bool (if r=(0,want,0,0)/\(dW rg m.c.2.2.1 need=true\/¬rX m want.2.2.1)then true else false)/\∃F',jx w' g (aL (if r=(0,want,0,0)/\(dW rg m.c.2.2.1 need=true\/¬rX m want.2.2.1)then{m with rgs:=m.rgs.set i (lg m.c.2.2.1 need rg want)}else m)) F'/\aO F0 F' W w':=by
 apply L130_0_ok;have a2:be prog .neq 35 (.tmp 81) (.tmp 83) (.agg (gw r).toArray) (.agg (gw (0,want,0,0)).toArray)=some (.bool (!decide (r=(0,want,0,0)))):=be_nrs r (0,want,0,0);have W1:=H.w1;have W2:=H.w2;have R0:=H.rg rg (cD hi);have L:(aL m).rgs[i]? =some (rg,ft m rg.nm):=by rw[rgs_rf,hi];rfl
 have M:=(bY.1 L).1;have z:ad [] w w.drew:=(ad.refl _ _).drew;have O:rg.objs.length<=1000000:=cU R0.ol dB;simp only[L130_0,eP h7,iU a,bdr_1,a2,ac];by_cases A:r=(0,want,0,0)
 ·cases hf:dW rg m.c.2.2.1 need with
  |true=>
   have Q:r=(0,want,0,0)/\(true=true\/¬rX m want.2.2.1):=⟨A,.inl rfl⟩
   rw[bU Q,bU Q];obtain⟨f1,f2,f3,f4⟩:=pG hf;obtain⟨b,c,v,Fk,hl,a3,_,_,q,S,d⟩:=(I.ao z).qM L (k:=3) dB (P:=iT rg.off) rfl;rw[S.1]at q;have C:an (hp w g) (0+9)=some (.slice (some ⟨b,0,none⟩) (aL m).rgs.length c):=hl;have j:an (hp w b) (i*8+3)=some (bN rg.off):=q;have ia:=ia_rgs (b:=b) (c:=c) M;obtain⟨ok,_,_,_,F1,t1,T⟩:=d w.drew cL (iT (rg.off+need)) (bN (rg.off+need)) ({rg with off:=rg.off+need},ft m rg.nm) (aO.none S.2 _) (fe _ _) ⟨rfl,λ_ h=>h⟩ rfl;have t:=T.ao (show hp w.drew o8=_ from a) J;have fin:=l_rAlloc1 (want:=want) (U.trans (T.pre z)) t1 (at_rr L) O t.1;rw[set_rr]at fin;simp only[cr A,zS,aS,mD,bz,ag,C,ia,j,aj,ap (n:=rg.off+need) dB dB];rw[gB (o:=i*8+3) rfl rfl ok];have eg:lg m.c.2.2.1 need rg want={rg with off:=rg.off+need,objs:=rg.objs++ [want]}:=by rw[lg,hf];rfl
   have er:=rf_setRg m hi (r':={rg with off:=rg.off+need,objs:=rg.objs++ [want]}) rfl;rw[eg,er];exact fin
  |false=>
   obtain⟨s,gn,rv,dd,hh,R⟩:=I.rd;have V:an (hp w g) (0+0+1)=some (bN m.c.2.1):=R.c 1 dB;have e2:(ba want).toArray[0+2]? =some (bN want.2.2.1):=rfl;have D:rX m want.2.2.1->¬(r=(0,want,0,0)/\(false=true\/¬rX m want.2.2.1)):=λhb ⟨_,h⟩=>by
    rcases h with h|h
    ·cases h
    ·exact h hb
   by_cases X:want.2.2.1<0
   ·have l:=D (.inl X);simp only[cr A,zS,eX,ag,a,e2,X];rw[bV l,bV l];exact⟨by first|rfl|trivial,F,jx.ao I z,U.post z⟩
   by_cases n1:m.c.2.1<=want.2.2.1
   ·have l:=D (.inr (.inl n1));simp only[cr A,zS,eX,ag,a,e2,X,fC,jo,V,n1];rw[bV l,bV l];exact⟨by first|rfl|trivial,F,jx.ao I z,U.post z⟩
   simp only[cr A,zS,eX,ag,a,e2,X,fC,jo,V,n1];refine(c_rTaken (R.ao z) (by rw[rf_len];exact cU H.rl dB) (λp hp=>by
    obtain⟨y,hy,rfl⟩:=List.mem_map.1 hp;exact cU (H.rg y hy).cl dB) want.2.2.1).mono ?_
   rintro _ E ⟨rfl,c5⟩;rw[rf_taken];have x:=z.trans c5;have B:=x.at a (by simp);cases ht:jf m want.2.2.1 with
   |true=>
    have l:=D (.inr (.inr ht));simp only[zS];rw[bV l,bV l];exact⟨by first|rfl|trivial,F,jx.ao I x,U.post x⟩
   |false=>
    have nb:¬rX m want.2.2.1:=by
     rintro(h1|h1|h1)
     ·exact X h1
     ·exact n1 h1
     ·rw[ht]at h1;cases h1
    have Q:r=(0,want,0,0)/\(false=true\/¬rX m want.2.2.1):=⟨A,.inr nb⟩
    have a4:ad [] E E.drew:=(ad.refl _ _).drew;have Y:=x.trans a4;obtain⟨b,c,v,Fk,hl,a3,_,a8,q,S,d⟩:=(jx.ao I Y).qM L (k:=5) dB (P:=fA rg.chunks) rfl;have C:an (hp E g) (0+9)=some (.slice (some ⟨b,0,none⟩) (aL m).rgs.length c):=hl;have j:an (hp E b) (i*8+5)=some v:=q;have ia:=ia_rgs (b:=b) (c:=c) M;obtain⟨Z,_⟩:=gN S;have a9:=R0.cl;simp only[zS,aS,mE,bz,aK,C,ia,j,B,e2];rw[bU Q,bU Q];have fin:∀(x1:Value) (w2:World),w2.ownsRow 0 3 1 x1 (rg.chunks.length+1) (ints rg.chunks++ [bN want.2.2.1])->E.drew.grownBy w2 v.ownBlock->hI E.drew v x1->
      an (hp w2 g) (0+9)=some (.slice (some ⟨b,0,none⟩) (aL m).rgs.length c)/\ck prog (Instr.storeAt 22 (.pointer (some ⟨b,i*8+5,none⟩)) x1) w2 λw'=>P130_2 (bS g) (bN i) (bS o8) (bN need) w' λv w'=>v= .bool true/\∃F',jx w' g (aL {m with rgs:=m.rgs.set i (lg m.c.2.2.1 need rg want)}) F'/\aO F0 F' W w':=by
     intro x1 w2 ho hg G;obtain⟨F2,a5,a6⟩:=l0 (vs:= [Value.int .i64 want.2.2.1]) S ho hg G;have a1:fA (rg.chunks++ [want.2.2.1]) w2 F2 x1:=by
      rw[fA,cq];have e:ints (rg.chunks++ [want.2.2.1])=ints rg.chunks++ [Value.int .i64 want.2.2.1]:=by simp[ints]
      rw[e];exact a5
     obtain⟨ok,s1,s2,a7,F3,t1,T⟩:=d w2 F2 (fA (rg.chunks++ [want.2.2.1])) x1 ({rg with chunks:=rg.chunks++ [want.2.2.1]},ft m rg.nm) a6 (ga _) a1 rfl;refine⟨by rw[a7];exact hl,?_⟩;rw[st_22 (o:=i*8+5) s1 s2 ok];have t:=T.ao (show hp E.drew o8=_ from B) J;have f:=l_rAlloc2 (want:=want) (need:=need) (U.trans (T.pre Y)) t1 (at_rr L) O (by have:=R0.wl;simp only;omega) (by show 0<=m.c.2.2.1;omega) W2 t.1 t.2;rw[set_rr]at f;have eg:lg m.c.2.2.1 need rg want={rg with chunks:=rg.chunks++ [want.2.2.1],words:=rg.words++ [List.replicate m.c.2.2.1.toNat 0],off:=eC m.c.2.2.1 need,objs:=rg.objs++ [want]}:=by rw[lg,hf];rfl
     have er:=rf_setRg m hi (r':={rg with chunks:=rg.chunks++ [want.2.2.1],words:=rg.words++ [List.replicate m.c.2.2.1.toNat 0],off:=eC m.c.2.2.1 need,objs:=rg.objs++ [want]}) rfl;rw[eg,er];exact f
    repeat' (with_reducible apply And.intro)
    all_goals
     refine ps_22 (λu hu=>by simp only[cV,dx,or_false]at hu;rcases hu with rfl;rfl) Z dB (cQ _) λx1 w2 ho hg G=>?_;obtain⟨f1,f2⟩:=fin x1 w2 ho hg G;try simp only[zS,f1,ia,mE]
     exact f2
 ·have l:∀{P:Prop},¬(r=(0,want,0,0)/\P):=λh=>A h.1;simp only[bZ A,zS];rw[bV l,bV l];exact⟨by first|rfl|trivial,F,I,U⟩
theorem c_rAlloc(I:jx w g (aL m) F)(X:Wf m K)(hK:K+1<=1000000)(o:eu)(h:eN)(r:jI)(hf:ec m.rgs (dO h)=some i):
  aa prog 130 [bS g,.agg (cI o).toArray,.agg (ba h).toArray,.agg (gw r).toArray] w λv w'=>v= .bool (gX m o.2.2.2.1 h r).1/\∃F',jx w' g (aL (gX m o.2.2.2.1 h r).2) F'/\aO F F' w w':=by
 apply F130_ok;obtain⟨x,H,c8⟩:=nN hf;have R0:=X.rg x (cD H);have W1:=X.w1;have W2:=X.w2;have hx:(aL m).rgs[i]? =some (x,ft m x.nm):=by rw[rgs_rf,H];rfl
 have a6:=(bY.1 hx).1;have B:(aL m).rgs.length<=1000000:=by rw[rf_len];exact cU X.rl dB
 have gv:gX m o.2.2.2.1 h r=if dW x m.c.2.2.1 (bF x.cls o.2.2.2.1)=false/\r=bn 6 then(true,m)
   else if dW x m.c.2.2.1 (bF x.cls o.2.2.2.1)=false/\(r.2.1.2.2.1<0\/m.c.2.1<=r.2.1.2.2.1\/jf m r.2.1.2.2.1=true)then(false,m)
   else if r=(0,nL m.c.2.2.1 (bF x.cls o.2.2.2.1) o.2.2.2.1 x h r.2.1.2.2.1,0,0)then(true,{m with rgs:=m.rgs.set i (lg m.c.2.2.1 (bF x.cls o.2.2.2.1) x (nL m.c.2.2.1 (bF x.cls o.2.2.2.1) o.2.2.2.1 x h r.2.1.2.2.1))})
   else(false,m):=by
  rw[gX,hf];simp only[H]
 simp only[F130,ak,aq,ah];generalize Y:((w.alloc (.cells (cI o).toArray 37)).alloc _).alloc _=w1;have c1:ad [] w w1:=by rw[<- Y];exact(((ad.refl _ _).alloc _).alloc _).alloc _
 have b5:hp w1 w.heap.size=some (.cells (cI o).toArray 37):=by rw[<- Y,af,ah,ah,bV dB,af,ah,bV dB,af,bU rfl]
 have b6:hp w1 (w.heap.size+1)=some (.cells (ba h).toArray 32):=by rw[<- Y,af,ah,ah,bV dB,af,ah,bU rfl]
 have b7:hp w1 (w.heap.size+1+1)=some (.cells (gw r).toArray 35):=by rw[<- Y,af,ah,ah,bU rfl]
 clear Y;obtain⟨s,gn,rv,dd,hh,R⟩:=(I.ao c1).rd;have e0:(ba h).toArray[0+0]? =some (bN h.1):=rfl;have e1:(ba h).toArray[0+1]? =some (bN h.2.1):=rfl;simp only[zS,bu,gm,ag,b6,e0,e1];refine(c_rFind R (dO h) B).step ?_;rw[findX_rf,hf];simp only[ixR,zS,bc,ag,b5,lV];refine(c_rFits R hx B o.2.2.2.1).mono ?_;rintro _ w2 ⟨rfl,c2⟩;have j:=c1.trans c2;have d5:=c2.at b5 (by simp);have d6:=c2.at b6 (by simp);have d7:=c2.at b7 (by simp);have a7:be prog .eql 35 (.tmp 24) (.tmp 25) (.agg (gw r).toArray) (.agg (gw (bn 6)).toArray)=some (.bool (decide (r=bn 6))):=be_rs r (bn 6);have Z:dW (x,ft m x.nm).1 (aL m).c.2.2.1 (bF (x,ft m x.nm).1.cls o.2.2.2.1)=dW x m.c.2.2.1 (bF x.cls o.2.2.2.1):=rfl;rw[Z];simp only[eP d7,tj,a7,ac];by_cases r6:r=bn 6
 ·simp only[cr r6,zS];cases a:dW x m.c.2.2.1 (bF x.cls o.2.2.2.1)with
  |true=>
   rw[a,bV (by simp),bV (by simp),bV (by rw[r6];intro e;have:=congrArg (λq:jI=>q.1) e;simp[bn]at this)]at gv;rw[gv];exact⟨rfl,F,I.ao j,aO.bL j⟩
  |false=>
   rw[bU ⟨a,r6⟩]at gv;rw[gv];exact⟨rfl,F,I.ao j,aO.bL j⟩
 rw[bV (λh=>r6 h.2)]at gv;have a8:ai prog (Instr.build 32 #[(0,bN h.1),(1,bN h.2.1),(2,bN r.2.1.2.2.1),(4,bN o.2.2.2.1)])=some (.agg (ba (h.1,h.2.1,r.2.1.2.2.1,0,o.2.2.2.1)).toArray):=th;simp only[bZ r6,zS,eX,iS,ag,d5,d6,d7,e0,e1,rs_3,lV,a8,oB];rw[tk (c:=(ba kJ).toArray) (e:=32) (by rw[af,bU rfl];rfl) rfl];generalize J:put (w2.alloc _) w2.heap.size _ _=f;have C:ad [] w2 f:=by rw[<- J];exact((ad.refl _ _).alloc _).put (.inr (cy _)) _ _
 have M:hp f w2.heap.size=some (.cells (ba (h.1,h.2.1,r.2.1.2.2.1,0,o.2.2.2.1)).toArray 32):=by rw[<- J];exact ar (by simp) _ _
 clear J;have a9:=j.trans C;have f5:=C.at d5 (by simp);have f7:=C.at d7 (by simp);have s2:=j.size;have nF:∀{y},w.heap.size<=y->¬F y:=λhy=>I.notF hy;obtain⟨b,c,a1,⟨cv,wv,ov,Q⟩,_⟩:=rf_flag (I.ao a9) H;have ia:=ia_rgs (b:=b) (c:=c) a6;have u:ad [] f f.drew:=(ad.refl _ _).drew;simp only[zS,aS,fa_250_2,bz,ag,a1,ia,Q.c2,f5,lV];refine(c_rRound x.cls o.2.2.2.1 f.drew).step ?_;have k:∀(want:eN) p,ad [] w2 p->hp p w2.heap.size=some (.cells (ba want).toArray 32)->
   P130_0 (bS g) (.pointer (some ⟨w.heap.size+1+1,0,none⟩)) (bN i) (.bool (dW x m.c.2.2.1 (bF x.cls o.2.2.2.1))) (bS w2.heap.size) (bN (bF x.cls o.2.2.2.1)) p λv w'=>
    v= .bool (if r=(0,want,0,0)/\(dW x m.c.2.2.1 (bF x.cls o.2.2.2.1)=true\/¬rX m want.2.2.1)then true else false)/\∃F',jx w' g (aL (if r=(0,want,0,0)/\(dW x m.c.2.2.1 (bF x.cls o.2.2.2.1)=true\/¬rX m want.2.2.1)then{m with rgs:=m.rgs.set i (lg m.c.2.2.1 (bF x.cls o.2.2.2.1) x want)}else m)) F'/\aO F F' w w':=by
  intro want p c6 O;have a2:=j.trans c6;exact l_rAlloc0 (aO.bL a2) (I.ao a2) X hK H (c6.at d7 (by simp)) O (nF dB)
 cases a:dW x m.c.2.2.1 (bF x.cls o.2.2.2.1)with
 |true=>
  rw[a]at k;obtain⟨f1,f2,f3,f4⟩:=pG a;have ew:nL m.c.2.2.1 (bF x.cls o.2.2.2.1) o.2.2.2.1 x h r.2.1.2.2.1=(h.1,h.2.1,iD x.chunks,x.off,o.2.2.2.1):=by rw[nL,a];rfl
  rw[a,ew]at gv;simp only[Bool.true_eq_false,false_and,if_false]at gv;have tl:∀p,ad [] w2 p->hp p w2.heap.size=some (.cells (ba (h.1,h.2.1,iD x.chunks,x.off,o.2.2.2.1)).toArray 32)->
    P130_0 (bS g) (.pointer (some ⟨w.heap.size+1+1,0,none⟩)) (bN i) (.bool true) (bS w2.heap.size) (bN (bF x.cls o.2.2.2.1)) p λv w'=>v= .bool (gX m o.2.2.2.1 h r).1/\∃F',jx w' g (aL (gX m o.2.2.2.1 h r).2) F'/\aO F F' w w':=by
   intro p c6 O;have t:=k _ p c6 O;rw[gv];by_cases z:r=(0,(h.1,h.2.1,iD x.chunks,x.off,o.2.2.2.1),0,0)
   ·have ct:r=(0,(h.1,h.2.1,iD x.chunks,x.off,o.2.2.2.1),0,0)/\(true=true\/¬rX m (iD x.chunks)):=⟨z,.inl rfl⟩
    rw[bU ct,bU ct]at t;rw[bU z];exact t
   ·have D:¬(r=(0,(h.1,h.2.1,iD x.chunks,x.off,o.2.2.2.1),0,0)/\(true=true\/¬rX m (iD x.chunks))):=λh=>z h.1;rw[bV D,bV D]at t;rw[bV z];exact t
  have a3:∀d L,hp d w2.heap.size=some (.cells (ba (h.1,h.2.1,r.2.1.2.2.1,0,o.2.2.2.1)).toArray 32)->ck prog (Instr.storeAt 3 (.pointer (some ⟨w2.heap.size,0+2,none⟩)) (bN (iD x.chunks))) d L=L (put d w2.heap.size (ba (h.1,h.2.1,iD x.chunks,0,o.2.2.2.1)).toArray 32):=by
   intro d L P;rw[gB (o:=0+2) rfl rfl (by rw[P];rfl),P];rfl
  have a4:∀d L,hp d w2.heap.size=some (.cells (ba (h.1,h.2.1,iD x.chunks,0,o.2.2.2.1)).toArray 32)->ck prog (Instr.storeAt 3 (.pointer (some ⟨w2.heap.size,0+3,none⟩)) (bN x.off)) d L=L (put d w2.heap.size (ba (h.1,h.2.1,iD x.chunks,x.off,o.2.2.2.1)).toArray 32):=by
   intro d L P;rw[gB (o:=0+3) rfl rfl (by rw[P];rfl),P];rfl
  have Qd:∀d,ad [] w2 d->∃A S,an (hp d g) (0+9)=some (.slice (some ⟨b,0,none⟩) (aL m).rgs.length c)/\an (hp d b) (i*8+3)=some (bN x.off)/\an (hp d b) (i*8+5)=some (.slice A x.chunks.length S)/\sZ .i64 d A x.chunks:=by
   intro d c5;obtain⟨b',c',l,⟨c9,d1,d2,Q'⟩,_⟩:=rf_flag (I.ao (j.trans c5)) H;obtain⟨b0,c0,U,_,_⟩:=rf_flag (I.ao j) H;have e3:=ff C U;rw[a1]at e3;cases e3;rw[ff c5 U]at l;cases l;obtain⟨A,S,rfl,V⟩:=lf Q'.cT;exact⟨A,S,ff c5 U,Q'.c3,Q'.c5,V⟩
  obtain⟨A,S,z1,z2,z3,V⟩:=Qd f.drew (C.trans u);have b1:an (hp f g) (0+9)=some (.slice (some ⟨b,0,none⟩) (aL m).rgs.length c):=z1;have b2:an (hp f b) (i*8+3)=some (bN x.off):=z2;have b3:an (hp f b) (i*8+5)=some (.slice A x.chunks.length S):=z3;have W:x.chunks[x.chunks.length-1]? =some (iD x.chunks):=by
   rw[iD,bV dB,cu,bX (show x.chunks.length-1<x.chunks.length by omega)];rfl
  obtain⟨q,q1,q2⟩:=int_at (c:=S) V W;have b4:(x.chunks.length:Int)-1=((x.chunks.length-1:Nat):Int):=dB;have d3:=R0.cl;have T:∀d,ad [] w2 d->hp d w2.heap.size=some (.cells (ba (h.1,h.2.1,r.2.1.2.2.1,0,o.2.2.2.1)).toArray 32)->
    hp (put d w2.heap.size (ba (h.1,h.2.1,iD x.chunks,0,o.2.2.2.1)).toArray 32) w2.heap.size=some (.cells (ba (h.1,h.2.1,iD x.chunks,0,o.2.2.2.1)).toArray 32)/\
    an (hp (put d w2.heap.size (ba (h.1,h.2.1,iD x.chunks,0,o.2.2.2.1)).toArray 32) g) (0+9)=some (.slice (some ⟨b,0,none⟩) (aL m).rgs.length c)/\
    an (hp (put d w2.heap.size (ba (h.1,h.2.1,iD x.chunks,0,o.2.2.2.1)).toArray 32) b) (i*8+3)=some (bN x.off)/\
    P130_0 (bS g) (.pointer (some ⟨w.heap.size+1+1,0,none⟩)) (bN i) (.bool true) (bS w2.heap.size) (bN (bF x.cls o.2.2.2.1)) (put (put d w2.heap.size (ba (h.1,h.2.1,iD x.chunks,0,o.2.2.2.1)).toArray 32) w2.heap.size (ba (h.1,h.2.1,iD x.chunks,x.off,o.2.2.2.1)).toArray 32) λv w'=>v= .bool (gX m o.2.2.2.1 h r).1/\∃F',jx w' g (aL (gX m o.2.2.2.1 h r).2) F'/\aO F F' w w':=by
   intro d c5 P;have h6:hp (put d w2.heap.size (ba (h.1,h.2.1,iD x.chunks,0,o.2.2.2.1)).toArray 32) w2.heap.size=_:=ar (aD P) _ _;have a5:ad [] w2 (put d w2.heap.size (ba (h.1,h.2.1,iD x.chunks,0,o.2.2.2.1)).toArray 32):=c5.put (.inr (cy _)) _ _;obtain⟨A6,d4,y1,y2,_,_⟩:=Qd _ a5;exact⟨h6,y1,y2,tl _ (a5.put (.inr (cy _)) _ _) (ar (aD h6) (ba (h.1,h.2.1,iD x.chunks,x.off,o.2.2.2.1)).toArray 32)⟩
  have E:hp f.drew w2.heap.size=some (.cells (ba (h.1,h.2.1,r.2.1.2.2.1,0,o.2.2.2.1)).toArray 32):=M;have G:hp f.drew.drew w2.heap.size=some (.cells (ba (h.1,h.2.1,r.2.1.2.2.1,0,o.2.2.2.1)).toArray 32):=M;obtain⟨h6,y1,y2,t⟩:=T f.drew (C.trans u) E;obtain⟨b8,b9,c4,te⟩:=T f.drew.drew (C.trans u).drew G;have d8:an (hp f.drew.drew g) (0+9)=some (.slice (some ⟨b,0,none⟩) (aL m).rgs.length c):=z1;have d9:an (hp f.drew.drew b) (i*8+3)=some (bN x.off):=z2;have e2:an (hp f.drew.drew b) (i*8+5)=some (.slice A x.chunks.length S):=z3;have e4:gi prog 3 (.pointer (some q)) f.drew=some (bN (iD x.chunks)):=q2;have c7:gi prog 3 (.pointer (some q)) f.drew.drew=some (bN (iD x.chunks)):=q2;simp only[zS,mD,mE,hC,aK,ag,b1,b2,b3,ia,aQ,aH,b4,ap (n:=((x.chunks.length-1:Nat):Int)) dB dB,q1,c7];repeat' (with_reducible apply And.intro)
  all_goals first
   |(rw[a3 _ _ E]
     try simp only[zS,aS,mD,bz,ag,y1,y2,ia]
     rw[a4 _ _ h6];exact t)
   |(rw[a3 _ _ G]
     try simp only[zS,mD,ag,b9,c4,ia]
     rw[a4 _ _ b8];exact te)
 |false=>
  rw[a]at k;have ew:nL m.c.2.2.1 (bF x.cls o.2.2.2.1) o.2.2.2.1 x h r.2.1.2.2.1=(h.1,h.2.1,r.2.1.2.2.1,0,o.2.2.2.1):=by rw[nL,a];rfl
  rw[a,ew]at gv;simp only[true_and]at gv;have t:=k _ f.drew (C.trans u) (show hp f.drew w2.heap.size=_ from M);simp only[zS];rw[gv];by_cases hb:rX m r.2.1.2.2.1
  ·have l:r.2.1.2.2.1<0\/m.c.2.1<=r.2.1.2.2.1\/jf m r.2.1.2.2.1=true:=hb;have D:¬(r=(0,(h.1,h.2.1,r.2.1.2.2.1,0,o.2.2.2.1),0,0)/\(false=true\/¬rX m r.2.1.2.2.1)):=fun⟨_,h⟩=>by
    rcases h with h|h
    ·cases h
    ·exact h hb
   rw[bV D,bV D]at t;rw[bU l];exact t
  ·have l:¬(r.2.1.2.2.1<0\/m.c.2.1<=r.2.1.2.2.1\/jf m r.2.1.2.2.1=true):=hb;rw[bV l];by_cases z:r=(0,(h.1,h.2.1,r.2.1.2.2.1,0,o.2.2.2.1),0,0)
   ·have ct:r=(0,(h.1,h.2.1,r.2.1.2.2.1,0,o.2.2.2.1),0,0)/\(false=true\/¬rX m r.2.1.2.2.1):=⟨z,.inr hb⟩
    rw[bU ct,bU ct]at t;rw[bU z];exact t
   ·have D:¬(r=(0,(h.1,h.2.1,r.2.1.2.2.1,0,o.2.2.2.1),0,0)/\(false=true\/¬rX m r.2.1.2.2.1)):=λh=>z h.1;rw[bV D,bV D]at t;rw[bV z];exact t
end
section
variable{w:World}{g:Nat}{m:dI}{F:Fp}{K:Nat}
theorem c_rDo(I:jx w g (aL m) F)(L:Wf m K)(k:Wn m K)(Z:K+1<=1000000)(n:Int)(o:eu)(h:eN)(r:jI):
  aa prog 83 [bS g,bN n,.agg (cI o).toArray,.agg (ba h).toArray,.agg (gw r).toArray] w λv w'=>v= .bool (doV m n o h r).1/\∃F',jx w' g (aL (doV m n o h r).2) F'/\aO F F' w w':=by
 apply F83_ok;simp only[F83,ak,aq,ah];generalize p:((w.alloc (.cells (cI o).toArray 37)).alloc _).alloc _=w1;have Q:ad [] w w1:=by rw[<- p];exact(((ad.refl _ _).alloc _).alloc _).alloc _
 have S:hp w1 w.heap.size=some (.cells (cI o).toArray 37):=by rw[<- p,af,ah,ah,bV dB,af,ah,bV dB,af,bU rfl]
 have a8:hp w1 (w.heap.size+1)=some (.cells (ba h).toArray 32):=by rw[<- p,af,ah,ah,bV dB,af,ah,bU rfl]
 have a9:hp w1 (w.heap.size+1+1)=some (.cells (gw r).toArray 35):=by rw[<- p,af,ah,ah,bU rfl]
 clear p;have j:∀w',hp w' w.heap.size=some (.cells (cI o).toArray 37)->gi prog 37 (bS w.heap.size) w'=some (.agg (cI o).toArray):=λw' p=>aR (t:=37) (c:=(cI o).toArray) td (show(Tryz.prog.info? 37).map (·.size)=some (cI o).toArray.size from nC) p;simp only[ac,j _ S];refine(c_refMay o w1).mono ?_;rintro _ w2 ⟨rfl,M⟩;have b:=Q.trans M;have b7:=M.at S (by simp);have b8:=M.at a8 (by simp);obtain⟨s,gn,rv,dd,hh,R⟩:=(I.ao b).rd;have B:an (hp w2 g) (0+0+0)=some (bN m.c.1):=R.c 0 dB;have u:lK m n o=false->doV m n o h r=(false,m):=λe=>by rw[doV,bU e]
 cases C:jR o with
 |false=>
  simp only[zS];rw[u (by simp[lK,C])];exact⟨by first|rfl|trivial,F,I.ao b,aO.bL b⟩
 |true=>
 by_cases T:n<0
 ·simp only[zS,T];rw[u (by simp only[lK,Bool.and_eq_false_iff,decide_eq_false_iff_not];omega)];exact⟨by first|rfl|trivial,F,I.ao b,aO.bL b⟩
 by_cases n1:m.c.1<=n
 ·simp only[zS,T,fC,fq,ag,B,n1];have:=k.cw;rw[u (by simp only[lK,Bool.and_eq_false_iff,decide_eq_false_iff_not];omega)];exact⟨by first|rfl|trivial,F,I.ao b,aO.bL b⟩
 obtain⟨nn,rfl⟩:=Int.eq_ofNat_of_zero_le (show 0<=n by omega);have y:lK m nn o=true:=by
  have:=k.cw;rw[lK,C,cr (show(0:Int)<=nn by omega),cr (show(nn:Int)<m.hands.length by omega)];rfl
 obtain⟨d,U⟩:=may_hd y;have V:m.hands[nn]? =some d:=U;simp only[zS,T,fC,fq,ag,B,n1,j _ b7,iU b8];refine(c_rMust (I.ao b) L dB y h).mono ?_;rintro _ O ⟨rfl,c3⟩;have D:=M.trans c3;have a1:=Q.trans D;simp only[kG,kH,zS,al_35];rw[lh (c:=(gw lR).toArray) (e:=35) (by rw[af,bU rfl];rfl) rfl];generalize z:put (O.alloc _) O.heap.size _ _=w4;have c4:ad [] O w4:=by rw[<- z];exact((ad.refl _ _).alloc _).put (.inr (cy _)) _ _
 have W:hp w4 O.heap.size=some (.cells (gw (eG m nn o h).1).toArray 35):=by rw[<- z];exact ar (by simp) _ _
 clear z;have l:=D.trans c4;have a:=Q.trans l;have E:=l.at S (by simp);have d8:=l.at a8 (by simp);have P:=l.at a9 (by simp);have X:be prog .neq 35 (.tmp 39) (.tmp 40) (.agg (gw r).toArray) (.agg (gw (eG m nn o h).1).toArray)=some (.bool (!decide (r=(eG m nn o h).1))):=be_nrs r _;cases Y:(eG m nn o h).2 with
 |true=>
  simp only[zS,eP P,eP W,X];have f:doV m nn o h r=if r=(eG m nn o h).1 then(true,if r.1=0 then fD m nn o h else m)else(false,m):=by rw[doV,bV (by rw[y];simp),bU Y]
  by_cases G:r=(eG m nn o h).1
  ·rw[bU G]at f;simp only[cr G,zS,kR,jd,P,rs_0];by_cases H:r.1=0
   ·rw[bU H]at f;have e0:(r.1==0)=true:=by rw[H];rfl
    have A:=must_fine y U (by rw[<- G];exact H);simp only[e0,zS,j _ E,iU d8];refine(c_rDoes (I.ao a) L dB k y V A).mono ?_;rintro _ w5 ⟨rfl,F5,J,u5⟩;apply L83_0_ok;rw[f];exact⟨rfl,F5,J,u5.pre a⟩
   ·rw[bV H]at f;simp only[aW H,zS];apply L83_0_ok;rw[f];exact⟨rfl,F,I.ao a,aO.bL a⟩
  ·rw[bV G]at f;simp only[bZ G,zS];rw[f];exact⟨by first|rfl|trivial,F,I.ao a,aO.bL a⟩
 |false=>
  obtain⟨A,hk⟩:=must_open y U Y;have f:doV m nn o h r=if o.1=1 then bT m o.2.2.2.1 r else gX m o.2.2.2.1 h r:=by rw[doV,bV (by rw[y];simp),bV (by rw[Y];simp)]
  by_cases k1:o.1=1
  ·rw[bU k1]at f;have q:(o.1==1)=true:=by rw[k1];rfl
   simp only[zS,am,ag,E,aJ,q,eP P,j _ E];refine(c_rCreate (I.ao a) L k Z o r).mono ?_;rintro _ w5 ⟨rfl,F5,J,u5⟩;rw[f];exact⟨rfl,F5,J,u5.pre a⟩
  ·rw[bV k1]at f;obtain⟨i,x,hf,_,_,_⟩:=pI A dB;simp only[zS,am,ag,E,aJ,aW k1,eP P,iU d8,j _ E];refine(c_rAlloc (I.ao a) L Z o h r hf).mono ?_;rintro _ w5 ⟨rfl,F5,J,u5⟩;rw[f];exact⟨rfl,F5,J,u5.pre a⟩
end
def rY(l:List di)(e:dP)(s:di)(m:dI):Bool×dI:=if e.2.2=true then nK m (fm l s).1 else doV m s.wk s.op (fm l s) s.re
def ckV(l:List di):List dP->dI->Int×Bool
 | [],_=>(-1,true)
 |e::r,m=>match l[e.2.1.toNat]? with
  |none=>(0,false)
  |some s=>if(rY l e s m).1=true then ckV l r (rY l e s m).2 else(e.2.1,false)
noncomputable def fG(c:cx)(l:List di):Int×Bool:=if jw c=true/\mI l=true then ckV l (evs l) (qR c false)else(0,false)
def EvOk(l:List di)(E:List dP):Prop:=∀e∈E,∃i:Nat,i<l.length/\e.2.1=i
theorem sortR_mem:∀(l a:List dP) (e:dP),e∈l.foldl (λa e=>pK e a) a->e∈a\/e∈l
 | [],a,e,h=> .inl h
 |x::l,a,e,h=>by
  rcases sortR_mem l (pK x a) e h with h|h
  ·rcases cV.1 ((nj x a).mem_iff.1 h)with rfl|h
   ·exact .inr (by simp)
   ·exact .inl h
  ·exact .inr (List.mem_cons_of_mem _ h)
theorem evs_ok(l:List di):EvOk l (evs l):=λe b=>by
 rcases sortR_mem _ _ e b with h|h
 ·cases h
 obtain⟨k,s,c,a⟩:=rR l 0 e h;have d:=(bY.1 c).1;refine⟨k,d,?_⟩;unfold nP at a;rcases List.mem_append.1 a with h|h<;>(split at h<;>simp at h;subst h;simp)
theorem ckX_wf{l:List di}{e:dP}{s:di}{m:dI}{K:Nat}(h:Wf m K):Wf (rY l e s m).2 (K+1):=by
 unfold rY;split
 ·exact(h.back _).mono dB
 ·exact h.doV _ _ _ _
theorem ckX_wn{l:List di}{e:dP}{s:di}{m:dI}{K:Nat}(h:Wn m K)(a:K<=1000000):Wn (rY l e s m).2 (K+1):=by
 unfold rY;split
 ·exact(h.back _).mono dB
 ·exact h.doV a _ _ _ _
theorem rd_chgP{F:Fp}{w w':World}{A:Option Addr}{cs:List Value}(h:fp w A cs)(d:bl F w w')(e:∀p,A=some p->cs≠ []->¬F p.block):fp w' A cs:=λj u b=>by
 obtain⟨p,hp,a⟩:=h j u b;have c:(p.add j).block=p.block:=by unfold Addr.add;split<;>rfl
 have f:=e p hp λh=>by rw[h]at b;simp at b
 have:w'.heap[(p.add j).block]? =w.heap[(p.add j).block]? :=d.block (p.add j).block (qk a) (by rw[c];exact f);refine⟨p,hp,?_⟩;unfold World.cell? at a⊢;rw[this];exact a
structure EvR(w:World)(F:Fp)(A:Option Addr)(E:List dP):Prop where
 rd:fp w A (E.flatMap gR)
 ne:∀p,A=some p->E≠ []->¬F p.block
section
variable{W w w':World}{F F':Fp}{A:Option Addr}{E:List dP}{l:List di}{g K:Nat}{m:dI}
theorem EvR.lt(h:EvR w F A E){p:Addr}(hp:A=some p)(b:E≠ []):p.block<w.heap.size:=by
 cases E with
 |nil=>exact absurd rfl b
 |cons e E=>
  obtain⟨q,a,c⟩:=h.rd 0 (bN e.1) (by simp[gR]);rw[hp]at a;cases a;have:=qk c;simpa [Addr.add]using this
theorem EvR.upd(h:EvR w F A E)(u:aO F F' w w'):EvR w' F' A E:=
 ⟨rd_chgP h.rd u.aF λp hp b=>h.ne p hp λc=>b (by rw[c];rfl),λp hp a d=>by
  rcases u.sub _ d with h1|h1
  ·exact h.ne p hp a h1
  ·have:=h.lt hp a;omega⟩
theorem EvR.ao(h:EvR w F A E)(c:ad [] w w'):EvR w' F A E:=h.upd (aO.bL c)
theorem At.ldre{b:Nat}{s:di}{e:TypeId}(h:hp w b=some (.cells (iW s) e)):gi prog 35 (.pointer (some ⟨b,0+12,none⟩)) w=some (.agg (gw s.re).toArray):=by
 rw[ld_35,h];rfl
theorem chg_updP{a b c:World}{F F':Fp}(h:ad [] a b)(u:aO F F' b c)(e:∀k,F k->a.heap.size<=k):ad [] a c:=
 ⟨u.aF.os.trans h.os,u.aF.tape.trans h.tape,u.aF.output.trans h.output,cU h.size u.aF.size,λk d f=>(u.aF.block k (de d h.size) λg=>by have:=e k g;omega).trans (h.block k d f)⟩
theorem updP_new{a b c:World}{F F':Fp}(h:ad [] a b)(u:aO F F' b c)(d:∀k,F k->a.heap.size<=k):∀k,F' k->a.heap.size<=k:=λk e=>by
 rcases u.sub k e with h1|h1
 ·exact d k h1
 ·have:=h.size;omega
def zSpA:Array Value:= #[bN 0,bN 0,bN 0,bN 0,bN 0,bN 0,bR 0,bR 0,bN 0,bN 0,bN 0,bN 0,bN 0,bN 0,bN 0,bN 0,bN 0,bN 0,bN 0,bR 0]
def zHnA:Array Value:= #[bN 0,bN 0,bN 0,bN 0,bN 0]
theorem l_oCheck(hl:l.length<=1000){As:Option Addr}{cs:Nat}(hA:fp W As (l.flatMap jS)){T:Nat}(a3:EvOk l E)(hE:E.length<=100000):∀(d k:Nat) (w:World) (m:dI) (F:Fp) (K:Nat),ad [] W w->kt w g m F->Wf m K->(∀ k,F k->W.heap.size<=k)->EvR w F A E->K<=k->k+d=E.length->
  P22_0 (.slice As l.length cs) (bS g) (.slice A E.length T) (bN E.length) (bN k) w λv w'=>v= .tuple #[bN (ckV l (E.drop k) m).1,.bool (ckV l (E.drop k) m).2]/\ad [] W w':=by
 intro d;induction d with
 |zero=>
  intro k w m F K D I Wm U G a4 hk;apply L22_0_ok;have:¬((k:Int)<E.length):=dB;simp only[L22_0,zS,this];rw[dk dB];exact⟨rfl,D⟩
 |succ d ih=>
  intro k w m F K D I Wm U G a4 hk;apply L22_0_ok;have a5:(k:Int)<E.length:=dB;have H:k<E.length:=dB;obtain⟨b,o,q1,q2⟩:=ev_at (c:=T) Tryz.underlying55 sz_58 G.rd H;have q3:gi prog 58 (.pointer (some ⟨b,o,none⟩)) w=some (.agg (gR E[k]).toArray):=by rw[ld_58,q2.l];rfl
  simp only[L22_0,zS,a5,q1,q3,al_58];rw[st_58 (by rfl) (by rfl) (by rw[af,bU rfl];rfl) (by rw[af,bU rfl];rfl),af,bU rfl];simp only[au];generalize J:put (w.alloc _) w.heap.size (gR E[k]).toArray 58=w1;have c1:ad [] w w1:=by rw[<- J];exact((ad.refl _ _).alloc _).put (.inr (cy _)) _ _
  have b9:hp w1 w.heap.size=some (.cells (gR E[k]).toArray 58):=by rw[<- J,bm,bU rfl,bU (by simp)]
  clear J;have V:¬F w.heap.size:=λh=>by have:=eR.lt I (gO _) _ h;omega
  generalize w.heap.size=L at*;obtain⟨i,hi,X⟩:=a3 E[k] (List.getElem_mem H);have a6:=D.trans c1;have Y:=hA.ao a6.below;obtain⟨bs,os,Q,R⟩:=iQ (c:=cs) (j:= .i64) (i:=i) Y hi;have M:E.drop k=E[k]::E.drop (k+1):=List.drop_eq_getElem_cons H;have Z:ckV l (E.drop k) m=if(rY l E[k] l[i] m).1=true then ckV l (E.drop (k+1)) (rY l E[k] l[i] m).2 else(E[k].2.1,false):=by
   rw[M,ckV,X,cj,bX hi]
  rw[Z];clear Z;generalize hs:l[i]=s at*;generalize he:E[k]=e at*;have x:an (hp w1 L) (0+1)=some (bN (i:Int)):=by rw[b9,aN,<-X];rfl
  have p2:∀(w':World) (F':Fp),hp w' L=some (.cells (gR e).toArray 58)->ad [] W w'->kt w' g (rY l e s m).2 F'->(∀ k,F' k->W.heap.size<=k)->EvR w' F' A E->
    P22_2 (.slice As l.length cs) (bS g) (bS L) (.bool (rY l e s m).1) (.slice A E.length T) (bN E.length) (bN k) w' λv w'=>v= .tuple #[bN (if(rY l e s m).1=true then ckV l (E.drop (k+1)) (rY l e s m).2 else(e.2.1,false)).1,.bool (if(rY l e s m).1=true then ckV l (E.drop (k+1)) (rY l e s m).2 else(e.2.1,false)).2]/\ad [] W w':=by
   intro w' F' a7 a1 I' a8 a2;apply L22_2_ok;have x:an (hp w' L) (0+1)=some (bN e.2.1):=by rw[a7,aN];rfl
   cases hx:(rY l e s m).1 with
   |true=>
    simp only[L22_2,zS,aj,ap (n:=(k:Int)+1) dB dB,if_true];exact ih (k+1) w' _ F' (K+1) a1 I' (ckX_wf Wm) a8 a2 dB dB
   |false=>
    simp only[L22_2,zS,oz,ag,x,if_false,Bool.false_eq_true];exact⟨trivial,a1⟩
  have p1:∀(w2:World) (rN o8:Nat),ad [] w1 w2->hp w2 rN=some (.cells (iW s) 39)->hp w2 o8=some (.cells (ba (fm l s)).toArray 32)->
    P22_1 (.slice As l.length cs) (bS g) (bS L) (bS rN) (bS o8) (.slice A E.length T) (bN E.length) (bN k) w2 λv w'=>v= .tuple #[bN (if(rY l e s m).1=true then ckV l (E.drop (k+1)) (rY l e s m).2 else(e.2.1,false)).1,.bool (if(rY l e s m).1=true then ckV l (E.drop (k+1)) (rY l e s m).2 else(e.2.1,false)).2]/\ad [] W w':=by
   intro w2 rN o8 c2 f u;apply L22_1_ok;have q:=c1.trans c2;have I2:=I.ao q;have B:=G.ao q;have O:=c2.at b9 (by simp);have e2:an (hp w2 L) (0+2)=some (.bool e.2.2):=by rw[O,aN];rfl
   cases hb:e.2.2 with
   |true=>
    rw[hb]at e2;have h0:an (hp w2 o8) (0+0)=some (bN (fm l s).1):=by rw[u,aN];rfl
    simp only[L22_1,zS,fa_58_2,bu,ag,az,e2,h0];refine(c_mBack I2 _).mono ?_;rintro _ w3 ⟨rfl,F3,I3,u3⟩;have hx:rY l e s m=nK m (fm l s).1:=by rw[rY,bU hb]
    rw[<- hx]at I3⊢;exact p2 w3 F3 (u3.aF.at O V) (chg_updP (D.trans q) u3 U) I3 (updP_new (D.trans q) u3 U) (B.upd u3)
   |false=>
    rw[hb]at e2;have h0:an (hp w2 rN) (0+0)=some (bN s.wk):=sp_c f 0;simp only[L22_1,zS,fa_58_2,jq,jr,hH,ag,az,e2,h0,(rQ f).ldop,iU u,At.ldre f];refine(c_mDo I2 Wm dB _ _ _ _).mono ?_;rintro _ w3 ⟨rfl,F3,I3,u3⟩;have hx:rY l e s m=doV m s.wk s.op (fm l s) s.re:=by rw[rY,bV (by rw[hb];simp)]
    rw[<- hx]at I3⊢;exact p2 w3 F3 (u3.aF.at O V) (chg_updP (D.trans q) u3 U) I3 (updP_new (D.trans q) u3 U) (B.upd u3)
  have a:ad [] w1 w1.drew:=(ad.refl _ _).drew;have fin:∀(S:World) (rN o8:Nat),ad [] w1 S->(∃ z:Array Value,z.size=20/\hp S rN=some (.cells z 39))->(∃ z:Array Value,z.size=5/\hp S o8=some (.cells z 32))->rN≠o8->w1.heap.size<=rN->w1.heap.size<=o8->
    ck prog (Instr.storeAt 39 (bS rN) (.agg (iW s))) S λw=>ck prog (Instr.storeAt 32 (bS o8) (.agg (ba (fm l s)).toArray)) w λw=>
     P22_1 (.slice As l.length cs) (bS g) (bS L) (bS rN) (bS o8) (.slice A E.length T) (bN E.length) (bN k) w λv w'=>v= .tuple #[bN (if(rY l e s m).1=true then ckV l (E.drop (k+1)) (rY l e s m).2 else(e.2.1,false)).1,.bool (if(rY l e s m).1=true then ckV l (E.drop (k+1)) (rY l e s m).2 else(e.2.1,false)).2]/\ad [] W w':=by
   rintro S rN o8 cX ⟨z,hz,f⟩ ⟨y,hy,u⟩ a9 b1 b2;rw[st_39 (by rfl) (by rfl) (by rw[f,bq];exact cr dB) (by rw[f];exact hz),f,au];have C:hp (put S rN (iW s) 39) o8=some (.cells y 32):=by rw[bm,bV dB];exact u
   rw[tk C hy];refine p1 _ rN o8 ((cX.put (.inr b1) _ _).put (.inr b2) _ _) ?_ (ar (aD C) _ _);rw[bm,bV a9];exact ar (aD f) _ _
  have two:∀(wB:World) (o1 o2:Obj),hp ((wB.alloc o1).alloc o2) wB.heap.size=some o1/\hp ((wB.alloc o1).alloc o2) (wB.heap.size+1)=some o2:=λwB o1 o2=>
   ⟨by rw[af,ah,bV dB,af,bU rfl],by rw[af,ah,bU rfl]⟩
  have one:∀(wB:World) (o:Obj),hp (wB.alloc o) wB.heap.size=some o:=λwB o=>by rw[af,bU rfl]
  have call:∀(wB:World),ad [] w1 wB->aa prog 36 [.slice As l.length cs,bN i] wB λv w'=>v= .agg (ba (fm l s)).toArray/\ad [] wB w':=λwB cB=>by
   have:=c_oHandle0 (c:=cs) dB (Y.ao cB.below) hi;rw[hs]at this;exact this
  have sd:w1.drew.heap.size=w1.heap.size:=rfl;refine⟨⟨⟨?_,?_⟩,?_⟩,⟨⟨?_,?_⟩,?_⟩⟩
  ·simp only[zS,oz,ag,x,Q,(R.ao a).ld,qK,oB,ah,sd];refine ib (call _ ((a.alloc _).alloc _)) λv w' r c=>?_;subst r;obtain⟨t,P⟩:=two w1.drew (.cells zSpA 39) (.cells zHnA 32);have p:=((a.alloc _).alloc _).trans c;exact fin w' _ _ p ⟨_,rfl,c.at t (by simp)⟩ ⟨_,rfl,c.at P (by simp)⟩ dB dB dB
  ·simp only[zS,oz,ag,x,Q,(R.ao a).ld,qK,oB,sd];refine ib (call _ (a.alloc _)) λv w' r c=>?_;subst r;have t:=one w1.drew (.cells zSpA 39);have p:=(a.alloc _).trans c;have h1:=c.at t (by simp);have:=aD h1;have:=p.size;exact fin _ _ _ (p.alloc _) ⟨_,rfl,(((ad.refl [] w').alloc _).at h1 (by simp))⟩ ⟨_,rfl,(one w' (.cells zHnA 32))⟩ dB dB dB
  ·simp only[zS,oz,ag,x,Q,(R.ao a).ld,qK,oB,ah];refine ib (call _ a) λv w' r c=>?_;subst r;obtain⟨t,P⟩:=two w' (.cells zSpA 39) (.cells zHnA 32);have p:=a.trans c;have:=p.size;exact fin _ _ _ ((p.alloc _).alloc _) ⟨_,rfl,t⟩ ⟨_,rfl,P⟩ dB dB dB
  ·simp only[zS,oz,ag,x,Q,(R.ao a).ld,qK,oB,ah,sd];refine ib (call _ ((a.alloc _).alloc _)) λv w' r c=>?_;subst r;obtain⟨t,P⟩:=two w1.drew (.cells zHnA 32) (.cells zSpA 39);have p:=((a.alloc _).alloc _).trans c;exact fin w' _ _ p ⟨_,rfl,c.at P (by simp)⟩ ⟨_,rfl,c.at t (by simp)⟩ dB dB dB
  ·simp only[zS,oz,ag,x,Q,(R.ao a).ld,qK,oB,sd];refine ib (call _ (a.alloc _)) λv w' r c=>?_;subst r;have t:=one w1.drew (.cells zHnA 32);have p:=(a.alloc _).trans c;have h1:=c.at t (by simp);have:=aD h1;have:=p.size;exact fin _ _ _ (p.alloc _) ⟨_,rfl,(one w' (.cells zSpA 39))⟩ ⟨_,rfl,(((ad.refl [] w').alloc _).at h1 (by simp))⟩ dB dB dB
  ·simp only[zS,oz,ag,x,Q,(R.ao a).ld,qK,oB,ah];refine ib (call _ a) λv w' r c=>?_;subst r;obtain⟨t,P⟩:=two w' (.cells zHnA 32) (.cells zSpA 39);have p:=a.trans c;have:=p.size;exact fin _ _ _ ((p.alloc _).alloc _) ⟨_,rfl,P⟩ ⟨_,rfl,t⟩ dB dB dB
end
end Go.Proofs.YtnpflajdbchghaaGreat
