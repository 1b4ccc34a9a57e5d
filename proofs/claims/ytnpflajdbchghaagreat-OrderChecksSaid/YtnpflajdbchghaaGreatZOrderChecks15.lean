/- Parts of the proof of OrderChecks, one behind the other. Conditions: none. -/
import Derived.Test.YtnpflajdbchghaaGreatZOrderChecks14
set_option linter.unusedSimpArgs false
set_option linter.unusedVariables false
set_option maxHeartbeats 4000000
set_option maxRecDepth 100000
noncomputable section
namespace Go.Proofs.YtnpflajdbchghaaGreat
open Tryz(prog)
open Go Ev Go.RowKit
section
variable{W w w':World}
theorem lit_rd{b:Nat}{xs:List Int}{e:TypeId}(h:hp w b=some (.cells (ints xs).toArray e)):sZ .i64 w (some ⟨b,0,none⟩) xs:=λi a=>by
 refine⟨_,rfl,?_⟩;rw[eL,fT,h,aN,cM];simp only[ints,List.getElem?_toArray,cN,bX a,cu];rfl
structure NmW(q:Nat)(A:Option Addr)(cc:Nat)(xs:List Int)(B:Nat)(w:World):Prop where
 sq:∃at':Nat,hp w q=some (.cells #[.slice A xs.length cc,bN (at':Int)] 114)/\at'<=B
 rd:sZ .i64 w A xs
 ne:∀p,A=some p->p.block≠q
theorem NmW.N{q:Nat}{A:Option Addr}{a:Nat}{xs:List Int}{B:Nat}(h:NmW q A a xs B w)(j:B<=1000000){m:Int}(c:0<m)(d:m<=1000000){K:Value->World->Prop}(e:∀(r:Nat) w',(r:Int)<m->ad [q] w w'->NmW q A a xs (B+1) w'->K (bN r) w'):
  aa prog 53 [bS q,bN m] w K:=by
 obtain⟨at',f,k⟩:=h.sq;refine(c_SeqN f h.rd h.ne dB c d).mono ?_;rintro v w' ⟨⟨r,rfl,g⟩,i,b⟩;exact e r w' g b ⟨⟨at'+1,i,dB⟩,sZ.aF h.rd b λp hp=>by simpa using h.ne p hp,h.ne⟩
theorem c_mConfig(a:Int)(w:World):aa prog 25 [bN a] w λv w'=>∃c:cx,v= .agg (dN c).toArray/\(jw c=true/\c.2.1<=8)/\ad [] w w':=by
 apply F25_ok;have i:∀{m:Int} (a:Int) (w:World),0<m->m<=1000->∀K:Value->World->Prop,(∀ x:Int,K (bN x) w)->aa prog 11 [bN a,bN m] w K:=by
  intro m a w z J K L;exact(nH a m w z dB).step (L _)
 have s2:(dN (0,0,0,0,0,0)).toArray.size=6:=rfl;simp only[F25,al_25];generalize f:w.alloc _=w1;have M:ad [] w w1:=by rw[<- f];exact(ad.refl _ _).alloc _
 have A:hp w1 w.heap.size=some (.cells (dN (0,0,0,0,0,0)).toArray 25):=by rw[<- f,af,bU rfl];rfl
 clear f;refine i _ _ dC dC _ λB=>?_;simp only[kN (show(4:Int)≠0 by decide),ac];refine i _ _ dC dC _ λx1=>?_;simp only[kN (show(32:Int)≠0 by decide),ac];refine i _ _ dC dC _ λC=>?_;simp only[kN (show(64:Int)≠0 by decide),ac];refine i _ _ dC dC _ λD=>?_;simp only[kN (show(256:Int)≠0 by decide),ac];refine i _ _ dC dC _ λE=>?_;simp only[kN (show(1024:Int)≠0 by decide),ac];refine i _ _ dC dC _ λF=>?_;simp only[bs_22_6,bd_114_0,ac,ak,aq];generalize d:w1.alloc _=e;have G:ad [] w1 e:=by rw[<- d];exact(ad.refl _ _).alloc _
 have sa:e.heap.size=w1.heap.size+1:=by rw[<- d,ah]
 have O:hp e w1.heap.size=some (.cells (ints [B,x1,C,D,E,F]).toArray 3):=by rw[<- d,af,bU rfl];rfl
 clear d;generalize g:e.alloc _=j;have cb:ad [] e j:=by rw[<- g];exact(ad.refl _ _).alloc _
 have P:hp j e.heap.size=some (.cells #[.slice (some ⟨w1.heap.size,0,none⟩) 6 6,bN 0] 114):=by rw[<- g,af,bU rfl]
 clear g;have Q:NmW e.heap.size (some ⟨w1.heap.size,0,none⟩) 6 [B,x1,C,D,E,F] 0 j:=⟨⟨0,P,cy _⟩,(lit_rd O).ao cb.below,λp hp=>by cases hp;simp only;omega⟩
 have R:=cb.at (G.at A (by simp)) (by simp);have s1:=aD A;have b:ad [] w j:=(M.trans G).trans cb;have s:w.heap.size≠e.heap.size:=dB;generalize hq:e.heap.size=q at*;have qn:w.heap.size<=q:=dB;have fin:∀{w1:World},ad [q] j w1->ad [] w w1:=λl=>⟨l.os.trans b.os,l.tape.trans b.tape,l.output.trans b.output,cU b.size l.size,λk H _=>by
  rw[l.block k (de H b.size) (by simp;omega)];exact b.block k H (by simp)⟩
 refine Q.N dB dC dC λr0 v0 z S T=>?_;simp only[aj,ac,ap (n:=1+(r0:Int)) dB dB];refine T.N dB dC dC λo v1 J k1 U=>?_;simp only[aj,ac,ap (n:=1+(o:Int)) dB dB];refine U.N dB dC dC λr v2 h2 k2 V=>?_;simp only[aj,jB,ac,ap (n:=8*(r:Int)) dB dB,ap (n:=8+8*(r:Int)) dB dB];refine V.N dB dC dC λt v3 h3 W X=>?_;simp only[aj,ac,ap (n:=1+(t:Int)) dB dB];refine X.N dB dC dC λI v4 h4 Y Z=>?_;refine Z.N dB dC dC λu v5 h5 k5 D6=>?_;have kk:ad [q] j v5:=S.trans (k1.trans (k2.trans (W.trans (Y.trans k5))));have b5:=kk.at R (by simpa using s);have y:ai prog (Instr.build 25 #[(0,bN (1+(r0:Int))),(1,bN (1+(o:Int))),(2,bN (8+8*(r:Int))),(3,bN (1+(t:Int))),(4,bN I),(5,bN (1+(u:Int)))])=some (.agg (dN (1+(r0:Int),1+(o:Int),8+8*(r:Int),1+(t:Int),(I:Int),1+(u:Int))).toArray):=bd_25_0_1_2_3_4_5;simp only[aj,ac,ap (n:=1+(u:Int)) dB dB,y];rw[st_25 rfl rfl (by rw[b5];rfl) (by rw[b5];rfl),b5,au,fM (ar (aD b5) _ _),ac];refine⟨_,rfl,⟨?_,by show 1+(o:Int)<=8;omega⟩,(fin kk).put (.inr (cy _)) _ _⟩;simp only[jw,cZ,decide_eq_true_eq];omega
theorem rdI_v{A:Option Addr}{xs:List Int}(h:sZ .i64 w A xs):fp w A (ints xs):=λj u b=>by
 have c:=(bY.1 b).1;have a:j<xs.length:=by simpa [ints]using c
 obtain⟨p,d,e⟩:=h j a;refine⟨p,d,e.trans ?_⟩;rw[ints,cN,bX a]at b;rw[<- b,cu,bX a];rfl
theorem l_picks{A:Option Addr}{k:Nat}{xs:List Int}{n:Nat}(C:0<n/\n<=1000)(D:xs.length<=100000)(e:fp W A (ints xs)):∀(d i:Nat) (w:World) (p:List Int) (c:Value),i+d=xs.length->ad [] W w->p.length=i->w.ownsRow W.heap.size 3 1 c p.length (ints p)->
  P29_0 (.slice A xs.length k) (bN n) c (bN i) w λv w'=>∃p':List Int,p'.length=xs.length/\w'.ownsRow W.heap.size 3 1 v p'.length (ints p')/\ad [] W w'
 |0,i,w,p,c,E,g,hp,o=>by
  apply L29_0_ok;have F:¬(i:Int)<xs.length:=dB;simp only[L29_0,aQ,ac,aG,F,decide_false,zS];exact⟨p,dB,o,g⟩
 |d+1,i,w,p,c,E,g,hp,o=>by
  apply L29_0_ok;have G:=e.ao g.below;have r:(i:Int)<xs.length:=dB;obtain⟨b,s⟩:∃b,xs[i]? =some b:=⟨_,bX dB⟩
  obtain⟨q,f,H,t⟩:=rd_int G s k;have j:∀y:Int,P29_1 (.slice A xs.length k) (bN n) c (bN i) (bN y) w λv w'=>∃p':List Int,p'.length=xs.length/\w'.ownsRow W.heap.size 3 1 v p'.length (ints p')/\ad [] W w':=λy=>by
   apply L29_1_ok;rw[L29_1];refine ps_22 (x:=c) (xs:=ints p) (n:=p.length) (base:=W.heap.size) (by simp) o dB g.size λI w1 J u K=>?_;have z:ad [] W w1:=g.grown u λk L=> .inr (by have:=oS o L;omega);have M:IntKind.i64.wrap ((i:Int)+1)=((i+1:Nat):Int):=by rw[ap dB dB];omega
   simp only[aj,M,ac];exact l_picks C D e d (i+1) w1 (p++ [y]) I dB z (by rw[cq];show p.length+1=_;omega) (by rw[cq];simpa [ints]using J)
  have a:∀(m:Int) (w:World),0<m->m<=1000->aa prog 11 [bN b,bN m] w λv w'=>v=bN (numV b m)/\w'=w:=λm w O P=>nH b m w O dB;simp only[L29_0,aQ,ac,aG,r,decide_true,H,ag,t,zS];refine(a n w dB dB).step ?_;simp only[t,ac];refine(a 97 w dB dB).step ?_;by_cases l:numV b 97=96
  ·have B:(numV b 97==96)=true:=by rw[l];rfl
   simp only[t,B,ac,zS];refine(a 3 w dB dB).step ?_;simp only[aj,aH,ac];exact j _
  ·have B:(numV b 97==96)=false:=cH l;simp only[B,ac,zS];exact j _
theorem c_Picks{A:Option Addr}{k:Nat}{xs:List Int}{n:Nat}(b:0<n/\n<=1000)(c:xs.length<=100000)(a:fp W A (ints xs)):aa prog 29 [.slice A xs.length k,bN n] W λv w'=>∃p':List Int,p'.length=xs.length/\w'.ownsRow W.heap.size 3 1 v p'.length (ints p')/\ad [] W w':=by
 apply F29_ok;exact l_picks b c a xs.length 0 W [] (.slice none 0 0) dB (ad.refl _ _) rfl (World.ownsRow_nil _ _ _ _)
theorem memI_fill{c:cx}{s:iF}(I:StkI c s):∀{m:bd},im c m->im c (fillV s m):=fun{m} M=>by
 have h:∀(i:Nat) (m:bd),im c m->im c (qQ s m i):=λi=>by
  induction i with
  |zero=>exact λm M=>M
  |succ i a=>
   intro m M;rw[qD];refine(a m M).set (I.lk i) ?_;have:=I.n;split
   ·exact⟨dm _,by show(0:Int)<=_;omega⟩
   ·have b:(i+2)%(s.n+1)<s.n+1:=Nat.mod_lt _ dB;constructor<;>omega
 rw[fillV_eq];exact h s.n _ (M.set I.hd ⟨dB,dB⟩)
theorem memI_new{c:cx}(N:gG c):im c (qC c):=by
 have a:im c (List.replicate (kI c) 0):=by
  refine⟨⟨dz,λx b=>?_⟩,λi d=>?_⟩
  ·rw[List.eq_of_mem_replicate b];exact⟨dm _,by show(0:Int)<=_;omega⟩
  ·have e:cf (List.replicate (kI c) 0) (iI c i)=0:=by
    rw[cf,cu,List.getElem?_replicate];split<;>rfl
   rw[e,get0_mark];omega
 exact memI_fill (spareJ N) (memI_fill (poolJ N) a)
theorem arI_new{c:cx}{ops:List (List eu)}(N:gG c)(g:∀i,(ops.getD i []).length<=1000)(j:∀i,∀o∈ops.getD i [],opU o):ArI c 0 (iL c ops):=by
 have d:∀i,(iL c ops).ops.getD i []=if i<cW c then ops.getD i []else []:=λi=>by
  show((List.range (cW c)).map λi=>ops.getD i []).getD i []=_;rw[cu,cN];by_cases h:i<cW c
  ·rw[List.getElem?_range h,bU h];rfl
  ·rw[List.getElem?_eq_none (by rw[List.length_range];omega),bV h];rfl
 have f:∀i,i<cW c->(iL c ops).ks.getD i aI=aI:=λi a=>by
  show(List.replicate (cW c) aI).getD i aI=_;rw[cu,List.getElem?_replicate,bU a];rfl
 refine⟨memI_new N,by simp[iL],by simp[iL],by simp[iL],λi a=>by rw[f i a];exact wkI_new,λi=>?_,λi o b=>?_,λi a=>?_,λi a hb=>?_,cy _,cy _,⟨dm _,dm _⟩⟩
 ·rw[d];split
  ·exact g i
  ·exact cQ _
 ·rw[d]at b;split at b
  ·exact j i o b
  ·cases b
 ·have e:(iL c ops).at'.getD i 0=0:=by
   show(List.replicate (cW c) (0:Int)).getD i 0=_;rw[cu,List.getElem?_replicate,bU a];rfl
  rw[e];omega
 ·rw[f i a]at hb;cases hb
end
section
variable{w w0 w1 w2 w':World}{A B:Option Addr}{k kb:Nat}{xs ps:List Int}{mo:Nat}
structure Played(mo:Nat)(ps:List Int)(c:cx)(ops:List (List eu))(p:List Int):Prop where
 n:gG c
 c8:cC c<=8
 ol:ops.length=cW c
 gen:∀l∈ops,∀o∈l,GenO o
 ub:ub ops<=40
 pl:p.length=ps.length
 run:RunOk c (iL c ops) p
 inv:ArI c (2*p.length) (oL c (iL c ops) p)
theorem wfO_u{o:eu}(h:WfO' o):opU o:=⟨⟨h.1.1,by have:=h.1.2;omega⟩,h.2.1,by have:=h.2.2;omega⟩
theorem played_ok{c:cx}{ops:List (List eu)}{p:List Int}(g:jw c=true)(s:c.2.1<=8)(b:ops.length=cW c)(e:∀l∈ops,∀o∈l,GenO o)(j:ub ops<=40)(hp:p.length=ps.length)(k:ps.length<=500):Played mo ps c ops p:=by
 have N:=cfN g;have t:=N.n2;have m:∀i,(ops.getD i []).length<=1000:=λi=>by
  rw[cu];cases h:ops[i]? with
  |none=>exact cQ _
  |some l=>have:=tot_ge (cD h);show l.length<=1000;omega
 have n:∀i,∀o∈ops.getD i [],opU o:=λi o a=>by
  rw[cu]at a;cases h:ops[i]? with
  |none=>rw[h]at a;cases a
  |some l=>rw[h]at a;exact wfO_u (e l (cD h) o a).2
 have d:cC c<=8:=dB;have q:(0+2*p.length)*grow c<=90000:=by
  have:grow c<=17:=by unfold grow;omega
  have u:(0+2*p.length)*grow c<=1000*17:=Nat.mul_le_mul dB this;omega
 obtain⟨r,f⟩:=run_ok N p 0 _ (arI_new N m n) dB q;exact⟨N,d,b,e,j,hp,r,by rw[cM]at f;exact f⟩
def PlR(mo:Nat)(ps:List Int)(w:World)(v:Value)(w':World):Prop:=∃c ops p As cs,Played mo ps c ops p/\v= .tuple #[.agg (dN c).toArray,.slice As (oL c (iL c ops) p).l.length cs]/\fp w' As ((oL c (iL c ops) p).l.flatMap jS)/\ad [] w w'
theorem LL.ops{a:Nat}{vs:List Value}{L:List (List eu)}(h:LL w a vs L):OpsL w (λ_=>none) (some ⟨a,0,none⟩) L vs:=by
 refine⟨h.len,⟨λj u c=>⟨_,rfl,?_⟩,λ_ _ _=>rfl⟩,λi b=>?_⟩
 ·have f:=(bY.1 c).1;rw[<- c,eL];show w.cell? ⟨a,0+j,none⟩=_;rw[fT,h.hb,aN];simp
 ·obtain⟨x,d⟩:∃x,vs[i]? =some x:=⟨_,bX (by rw[h.len];exact b)⟩
  have e:L.getD i []=L[i]:=by rw[cu,bX b];rfl
  obtain⟨A',g,k,l,m,_⟩:=aT (h.own i x L[i] d (bX b));rw[e];exact⟨A',g,by rw[d,k],l,λ_ _ _=>rfl⟩
end
section
variable{w:World}{sk:Nat}{A Ah:Option Addr}{n cs ch:Nat}{pv:Value}{t top:Int}{mn:Bool}{l:List di}{put:List Int}{e:TypeId}
end
section
variable{w:World}{A:Option Addr}{c n:Nat}{cs:List Value}
end
section
variable{W w w1:World}{g3:Nat}{Ps:List Th}{F:Fp}
end
section
variable{W w w1:World}{g g3:Nat}{m:dI}{F:Fp}
end
section
variable{W w w1:World}{g g3:Nat}{m:dI}{F:Fp}
end
section
variable{W w wA wB wC:World}{g3:Nat}{Ps:List Th}{F:Fp}
theorem m6(w:World)(b:Nat)(c a:Array Value)(e e':TypeId):put (put w b c e) b a e'=put w b a e':=by
 unfold Ev.put;simp[Array.setIfInBounds_setIfInBounds]
end
section
variable{W w w1:World}{g3:Nat}{Ps:List Th}{F:Fp}{m:dI}
end
section
variable{W w w1:World}{g g3:Nat}{m:dI}{F:Fp}
end
section
variable{W w w1:World}{g g3:Nat}{m:dI}{F:Fp}
end
section
variable{w:World}{g:Nat}{m:dI}{F:Fp}
end
section
variable{W w w':World}{sk:Nat}{A Ah:Option Addr}{cs ch:Nat}{l:List di}{pv pv':Value}{put:List Int}{t top:Int}{mn:Bool}
end
section
variable{W:World}{sk:Nat}{A Ah:Option Addr}{cs ch:Nat}{l:List di}{top:Int}
end
section
variable{w:World}{A:Option Addr}{cs:Nat}{l:List di}
end
section
variable{W w:World}{A:Option Addr}{c:Nat}{put:List Int}
section
variable{sk:Nat}{n cs:Nat}{left:Int}{mn:Bool}{l:List di}{e:TypeId}
end
end
section
variable{W w:World}{A:Option Addr}{c:Nat}{put:List Int}{sk:Nat}{n cs:Nat}{left:Int}{mn:Bool}{l:List di}{e:TypeId}
end
section
variable{W w Wi:World}{g g3 b5:Nat}{x:RfV}{F:Fp}{K:Value->World->Prop}{A:Option Addr}{c:Nat}
end
section
variable{W w Wi:World}{g g3 b5:Nat}{x:RfV}{F:Fp}
end
section
variable{sk:Nat}{A:Option Addr}{cs:Nat}{l:List di}{top:Int}
end
section
variable{l:List di}{top t:Int}{m m':dI}{put:List Int}{rec:dI->List Int->Int->SkO}{a b is js:List Nat}{i f:Nat}{s:di}{r:jI}{h:eN}
end
section
variable{v w x top:Int}{f:Nat}
end
theorem spC_one0(s:di):∀u∈jS s,u.oneCell'=true:=λu a=>List.all_eq_true.1 (show(jS s).all (·.oneCell')=true from rfl) u a
theorem rdV_blk{w:World}{b:Nat}{cs:List Value}{e:TypeId}(h:hp w b=some (.cells cs.toArray e)):fp w (some ⟨b,0,none⟩) cs:=λj u a=>by
 refine⟨_,rfl,?_⟩;rw[eL,fT,h,aN,cM];simpa using a
theorem ap_spans{w:World}{A:Option Addr}{n c:Nat}{l:List di}{K:Value->World->Prop}(o:n=l.length)(y:l.length<=1000)(p:fp w A (l.flatMap jS))
  (a:∀A' b w',fp w' A' (l.flatMap jS)->ad [] w w'->K (.slice A' l.length b) w'):cP prog (Builtin.append_ #[26,26] 26 #[(.slice none 0 0),.slice A n c]) w K:=by
 obtain⟨i,q,r,t,hb⟩:=inf_39;subst o;refine ja (base:=w.heap.size) (xs:= []) (n:=0) (news:=l.flatMap jS) (m:=l.length) Tryz.underlying26 q r t rfl dB (World.ownsRow_nil _ _ _ _) (gL nf l) (λj u v=>p j u v) (λu d=>?_) (by unfold maxLen;omega) (by rw[hb];omega) (cy _)
  λx' w1 g x=>?_
 ·obtain⟨s,_,d⟩:=List.mem_flatMap.1 d;exact spC_one0 s u d
 have e:ad [] w w1:=(ad.refl _ _).grown x λk a=>by simp[Value.ownBlock]at a
 rw[List.nil_append,cM]at g;obtain⟨A',b,rfl,f,_⟩:=aT g;exact a A' b w1 f e
def re0:jI:=(0,(0,0,0,0,0),0,0)
def re4:jI:=(4,(0,0,0,0,0),0,0)
def cFv:cx:=(1,1,8,1,0,1)
def opP:eu:=(3,0,0,0,0,0)
def sF(r:jI):di:=⟨0,0,opP,0,1,-1,1,r⟩
theorem may_one(r:jI):mI [sF r]=true:=mayB_t λi b s c=>by
 have b:i<1:=b;obtain rfl:i=0:=dB;have:sF r=s:=Option.some.inj c;subst this;exact⟨rfl,λp h=>dB,λk a h=>dB⟩
theorem ck0:fG cFv []=(-1,true):=by
 rw[fG,bU ⟨dC,mayB_t λi hi=>absurd hi (by simp)⟩];rfl
theorem ck1:fG cFv [sF re0]=(-1,true):=by
 rw[fG,bU ⟨dC,may_one _⟩];decide +kernel
theorem ck2:fG cFv [sF re4]=(0,false):=by
 rw[fG,bU ⟨dC,may_one _⟩];decide +kernel
theorem c_first25(w:World):aa prog 19 [] w λv w'=>v= .bool true/\ad [] w w':=by
 apply F19_ok;have n:ai prog (Instr.build 25 #[(0,bN 1),(1,bN 1),(2,bN 8),(3,bN 1),(5,bN 1)])=some (.agg (dN cFv).toArray):=bd_25_0_1_2_3_5;have o:ai prog (Instr.build 39 #[(2,.agg (cI opP).toArray),(4,bN 1),(5,bN (-1)),(6,bN 1)])=some (.agg (iW (sF re0))):=bd_39_2_4_5_6;have p:ai prog (Instr.build 37 #[(0,bN 3)])=some (.agg (cI opP).toArray):=bd_37_0;have j:∀(s:di) (w:World) (K:Value->World->Prop),cP prog (Instr.buildSlice 26 1 #[(0,.agg (iW s))]) w K=K (.slice (some ⟨w.heap.size,0,none⟩) 1 1) (w.alloc (.cells (iW s) 39)):=λs w K=>bs_26_1;simp only[F19,n,ac,al_25];rw[st_25 rfl rfl (by rw[af,bU rfl];rfl) (by rw[af,bU rfl];rfl),af,bU rfl,au];generalize a:put (w.alloc _) w.heap.size (dN cFv).toArray 25=w1;have D:ad [] w w1:=by rw[<- a];exact((ad.refl _ _).alloc _).put (.inr (cy _)) _ _
 have y:hp w1 w.heap.size=some (.cells (dN cFv).toArray 25):=by rw[<- a,bm,bU rfl,bU (by simp)]
 clear a;simp only[fM y,ac];refine(rZ (l:= []) (by simp) (As:=none) (cs:=0) (fp.nil _ _) cFv).mono ?_;rintro _ w2 ⟨rfl,z⟩;rw[ck0];have q:=z.at y (by simp);simp only[kG,kH,zS,p,o,qK];rw[st_39 (by rfl) (by rfl) (by rw[af,bU rfl];rfl) (by rw[af,bU rfl];rfl),af,bU rfl,au];generalize c:put (w2.alloc _) w2.heap.size (iW (sF re0)) 39=k;have A:ad [] w2 k:=by rw[<- c];exact((ad.refl _ _).alloc _).put (.inr (cy _)) _ _
 have B:hp k w2.heap.size=some (.cells (iW (sF re0)) 39):=by rw[<- c,bm,bU rfl,bU (by simp)]
 clear c;have m:=A.at q (by simp);have E:w2.heap.size≠w.heap.size:=by have:=aD q;omega
 have r:w.heap.size<=w2.heap.size:=by have:=aD q;omega
 generalize w2.heap.size=d at*;simp only[fM m,(rQ B).ld,ac,j];have F:∀s,ad [] k (k.alloc (.cells (iW s) 39)):=λs=>(ad.refl _ _).alloc _;have C:∀(s:di) (w:World),fp (w.alloc (.cells (iW s) 39)) (some ⟨w.heap.size,0,none⟩) ([s].flatMap jS):=λs w=>by
  have:=rdV_blk (w:=w.alloc (.cells (iW s) 39)) (b:=w.heap.size) (cs:=jS s) (e:=39) (by rw[af,bU rfl];rfl);simpa using this
 refine(rZ (l:= [sF re0]) (by simp) (cs:=1) (C (sF re0) k) cFv).mono ?_;rintro _ i ⟨rfl,G⟩;rw[ck1];have f:=(F _).trans G;have g:=f.at B (by simp);have t:=f.at m (by simp);have u:∀(L:World->Prop),ck prog (Instr.storeAt 30 (.pointer (some ⟨d,0+12+0,none⟩)) (bN 4)) i L=L (put i d (iW (sF re4)) 39):=λL=>by
  rw[mv sz_30 rfl rfl (by rw[g];rfl),g];rfl
 simp only[kG,kH,zS,hH,kR,u];have H:ad [] w (put i d (iW (sF re4)) 39):=(((D.trans z).trans A).trans f).put (.inr r) _ _;have b5:hp (put i d (iW (sF re4)) 39) d=some (.cells (iW (sF re4)) 39):=ar (aD g) _ _;have x:hp (put i d (iW (sF re4)) 39) w.heap.size=some (.cells (dN cFv).toArray 25):=by rw[bm,bV dB];exact t
 generalize put i d (iW (sF re4)) 39=I at*;simp only[fM x,(rQ b5).ld,ac,j];refine(rZ (l:= [sF re4]) (by simp) (cs:=1) (C (sF re4) I) cFv).mono ?_;rintro _ M ⟨rfl,J⟩;rw[ck2];simp only[kG,kH,zS];exact⟨trivial,(H.alloc _).trans J⟩
section
variable{sk:Nat}{A:Option Addr}{cs:Nat}{l:List di}{top:Int}
end
section
variable{As:Option Addr}{cs:Nat}{l:List di}
end
section
variable{W w w':World}{v:Value}{l:List di}{A:Option Addr}{k n:Nat}
structure OwS(W w:World)(v:Value)(l:List di):Prop where
 own:w.ownsRow W.heap.size 39 20 v l.length (l.flatMap jS)
 ch:ad [] W w
theorem spC_one(l:List di):∀u∈l.flatMap jS,u.oneCell'=true:=λu a=>by
 obtain⟨s,_,h⟩:=List.mem_flatMap.1 a;simp only[jS,cV,dx,or_false]at h;rcases h with rfl|rfl|rfl|rfl|rfl|rfl|rfl|rfl|rfl|rfl|rfl|rfl|rfl|rfl|rfl|rfl|rfl|rfl|rfl|rfl<;>rfl
theorem sp_copy{K:Value->World->Prop}(p:l.length<=100000)(c:fp w A (l.flatMap jS))(a:∀v w',OwS w w' v l->K v w'):cP prog (Builtin.append_ #[26,26] 26 #[.slice none 0 0,.slice A l.length k]) w K:=by
 obtain⟨i,d,e,f,hb⟩:=inf_39;refine ja (base:=w.heap.size) (xs:= []) (n:=0) (news:=l.flatMap jS) (m:=l.length) Tryz.underlying26 d e f rfl dB (World.ownsRow_nil _ _ _ _) (hU nf l) (λj u g=>c j u g) (spC_one l) (by unfold maxLen;omega) (by rw[hb];omega) (cy _) λx1 w1 b o=>?_;rw[List.nil_append,cM]at b;exact a x1 w1 ⟨b,(ad.refl _ _).grown o λk a=>by simp[Value.ownBlock]at a⟩
theorem OwS.aF(O:OwS W w v l)(a:ad [] w w'):OwS W w' v l:=⟨bM O.own a (λ_ _=>by simp),O.ch.trans a⟩
theorem OwS.rd(O:OwS W w v l):∃A c,v= .slice A l.length c/\fp w A (l.flatMap jS):=by
 obtain⟨A,c,e,r,_⟩:=aT O.own;exact⟨A,c,e,r⟩
theorem sp_row(O:OwS W w v l){i:Nat}{s:di}(c:l[i]? =some s):∃g,ai prog (Instr.indexAt 26 v (bN i))=some (.pointer (some ⟨g,i*20,none⟩))/\(∀ k,k<20->an (hp w g) (i*20+k)=(jS s)[k]?)/\
  ∀(t:TypeId) (x:Value) (n k:Nat) (d:di) (L:World->Prop),(Tryz.prog.info? t).map (·.size)=some n->(x.cells.size=n/\x.cells.toList.all (·.oneCell')=true/\0<n)->k+n<=20->jS d=(jS s).take k++x.cells.toList++(jS s).drop (k+n)->
   (∀ w',OwS W w' v (l.set i d)->L w')->ck prog (Instr.storeAt t (.pointer (some ⟨g,i*20+k,none⟩)) x) w L:=by
 have p:=(bY.1 c).1;obtain⟨g,kk,rfl,hb,f,q,_,r⟩:=kQ (P:=prog) (t:=26) (j:= .i64) (i:=(i:Int)) O.own Tryz.underlying26 sz_39 dB dB;rw[cj]at f r;refine⟨g,f,λk b=>?_,λt x n k d L u one e y b=>?_⟩
 ·have:=q k b;rw[cj]at this;rw[this];exact bK nf l i s c k b
 ·have a:x.cells.toList.length=n:=by rw[Array.length_toList];exact one.1
  obtain⟨m,z⟩:=oy (vs:=x.cells.toList) (o:=i*20+k) O.own hb (by rw[a];omega);rw[tY nf (by rw[a];exact e) (by rw[a];exact y) l i c]at m;rw[kq u one.1 one.2.1 one.2.2 (by rw[<- a];exact z)];refine b _ ⟨by rw[cE];exact m,O.ch.put (.inr ?_) _ _⟩;exact(O.own.lt g hb).1
end
theorem hn_eql(h:eN)(x y:Operand):be prog .eql 32 x y (.agg (ba h).toArray) (.agg (ba h).toArray)=some (.bool true):=be_eql_32.trans (by simp)
theorem hn_neq(h:eN)(x y:Operand):be prog .neq 32 x y (.agg (ba h).toArray) (.agg (ba h).toArray)=some (.bool false):=be_neq_32.trans (by simp)
section
variable{W:World}{l:List di}{As:Option Addr}{cs:Nat}
theorem l_says2(r:l.length<=1000)(f:fp W As (l.flatMap jS))(g:mI l=true):∀(d:Nat) (j:Int) (w:World),ad [] W w-> -1<=j->j+d=l.length+1->
  P23_2 (.slice As l.length cs) (bN j) w λv w'=>v= .bool true/\ad [] W w':=by
 intro d;induction d with
 |zero=>
  intro j w b i k;apply L23_2_ok;have:¬(j<=l.length):=dB;simp -implicitDefEqProofs only[L23_2,iP,zS,this];exact⟨trivial,b⟩
 |succ d m=>
  intro j w b i k;apply L23_2_ok;have e:j<=l.length:=dB;simp -implicitDefEqProofs only[L23_2,iP,zS,e];refine(c_oHandle (c:=cs) dB (f.ao b.below) j).mono ?_;rintro _ w2 ⟨rfl,o⟩;have a:=b.trans o;refine(oJ (c:=cs) dB (f.ao a.below) j).mono ?_;rintro _ p ⟨rfl,q⟩;have:rS l j=qN l j:=by rw[rS,bU g]
  rw[this];simp -implicitDefEqProofs only[hn_neq,zS,aj,ap (n:=j+1) dB dB];exact m (j+1) p (a.trans q) dB dB
theorem l_says1(t:l.length<=1000)(u:fp W As (l.flatMap jS))(x:mI l=true){p q:Option Addr}{r s:Nat}{E:List dP}(C:E.length<=100000):∀(d k:Nat) (w:World),fp w p (E.flatMap gR)->fp w q (E.flatMap gR)->ad [] W w->k+d=E.length->
  P23_1 (.slice As l.length cs) (.slice p E.length r) (.slice q E.length s) (bN k) w λv w'=>v= .bool true/\ad [] W w':=by
 intro d;induction d with
 |zero=>
  intro k w e f g y;apply L23_1_ok;have:¬((k:Int)<E.length):=dB;simp -implicitDefEqProofs only[L23_1,tH,zS,this];exact l_says2 t u x (l.length+2) (-1) w g dB dB
 |succ d z=>
  intro k w e f g y;apply L23_1_ok;have i:(k:Int)<E.length:=dB;have a:k<E.length:=dB;obtain⟨b,o,A,j⟩:=ev_at (c:=r) Tryz.underlying55 sz_58 e a;obtain⟨D,o',B,m⟩:=ev_at (c:=s) Tryz.underlying109 nD f a;simp -implicitDefEqProofs only[L23_1,tH,zS,i,A,B,fa_58_0,oz,fa_58_2,fa_111_0,fa_111_1,fa_111_2,ag,az,hp_drew,j.c0,j.c1,j.c2,m.c0,m.c1,m.c2,
   be_neqb Tryz.underlying4,aj,ap (n:=(k:Int)+1) dB dB]
  exact z (k+1) w.drew e f g.drew dB
theorem c_says25(A:l.length<=300){w:World}(a:fp w As (l.flatMap jS))(c:cx):aa prog 23 [.agg (dN c).toArray,.slice As l.length cs] w λv w'=>v= .bool true/\ad [] w w':=by
 apply F23_ok;simp -implicitDefEqProofs only[F23,ak,aq];generalize s:w.alloc _=w1;have B:ad [] w w1:=by rw[<- s];exact(ad.refl _ _).alloc _
 have C:hp w1 w.heap.size=some (.cells (dN c).toArray 25):=by rw[<- s,af,bU rfl]
 clear s;have f:hp w1.drew w.heap.size=some (.cells (dN c).toArray 25):=C;have g:=B.drew;have rest:∀w2:World,ad [] w1 w2->P23_0 (.slice As l.length cs) (bS w.heap.size) (bN (fG c l).1) (.bool (fG c l).2) w2 λv w'=>v= .bool true/\ad [] w w':=by
  intro w2 d;apply L23_0_ok;have i:=B.trans d;simp -implicitDefEqProofs only[L23_0,fM (d.at C (by simp)),ac];refine(c_refCheck (cs:=cs) dB (a.ao i.below) c).mono ?_;rintro _ q ⟨rfl,j⟩;have k:=i.trans j;simp -implicitDefEqProofs only[kG,kH,zS,be_neqb Tryz.underlying4];refine(c_RMayRef dB ⟨As,cs,rfl,a.ao k.below⟩).mono ?_;rintro _ L ⟨rfl,E⟩;have b:=k.trans E;cases r:mI l with
  |false=>
   simp -implicitDefEqProofs only[zS];refine(c_oSort (c:=cs) dB (a.ao b.below)).mono ?_;rintro v F ⟨m,t⟩;rw[bV (by rw[r];simp)]at m;obtain⟨M,O,rfl,_⟩:=m;have n:=b.trans t;simp -implicitDefEqProofs only[tH,zS,cY,show(((0:Nat):Int)==0)=true from rfl];refine(c_oHandle (c:=cs) dB (a.ao n.below) 0).mono ?_;rintro _ G ⟨rfl,x⟩;have:rS l 0=kJ:=by rw[rS,bV (by rw[r];simp)]
   rw[this];simp -implicitDefEqProofs only[bdh_,zS,hn_eql];exact⟨trivial,n.trans x⟩
  |true=>
   simp -implicitDefEqProofs only[zS];refine ap_spans rfl dB (a.ao b.below) λA' o F y t=>?_;refine(c_oSort (c:=o) dB y).mono ?_;rintro v G ⟨m,x⟩;rw[bU r]at m;have p:=(b.trans t).trans x;refine(c_refSort (c:=cs) dB (a.ao p.below)).mono ?_;rintro u H ⟨I,D⟩;have z:=p.trans D;obtain⟨P,k1,rfl,J,_⟩:=m.ao D;obtain⟨Q,k2,rfl,K,_⟩:=I;simp -implicitDefEqProofs only[tH,len_109,zS];exact l_says1 dB a r (by have:=evs_len2 l;omega) (evs l).length 0 H J K z dB
 constructor
 ·simp -implicitDefEqProofs only[fM f,ac];refine ap_spans rfl dB (a.ao g.below) λA' o w2 e d=>?_;refine(rZ (cs:=o) A e c).mono ?_;rintro _ q ⟨rfl,j⟩;simp -implicitDefEqProofs only[kG,kH,ac];exact rest q (((ad.refl _ _).drew.trans d).trans j)
 ·refine ap_spans rfl dB (a.ao g.below) λA' o w2 e d=>?_;simp -implicitDefEqProofs only[fM (d.at f (by simp)),ac];refine(rZ (cs:=o) A e c).mono ?_;rintro _ q ⟨rfl,j⟩;simp -implicitDefEqProofs only[kG,kH,ac];exact rest q (((ad.refl _ _).drew.trans d).trans j)
end
section
variable{w w0 w1 w2 w':World}{A B:Option Addr}{k kb:Nat}{xs ps:List Int}
theorem c_played25(hA:sZ .i64 w A xs)(hB:sZ .i64 w B ps)(a1:ps.length<=500)(n:Int):
  aa prog 20 [bN n,.slice A xs.length k,.slice B ps.length kb] w (PlR 30 ps w):=by
 apply F20_ok;rw[F20];dsimp only;rw[al_25];generalize t:World.alloc _ _=w1;have c1:ad [] w w1:=by rw[<- t];exact(ad.refl _ _).alloc _
 have b8:hp w1 w.heap.size=some (.cells (dN (0,0,0,0,0,0)).toArray 25):=by rw[<- t,af,bU rfl];rfl
 clear t;obtain⟨b,a2⟩:∃q,q=w.heap.size:=⟨_,rfl⟩
 rw[<- a2]at b8⊢;refine(c_mConfig n w1).mono ?_;rintro _ w2 ⟨c,rfl,⟨hm,h8⟩,c2⟩;have N:=cfN hm;have n1:=N.n1;have b6:=N.b1;rw[al_25];generalize t:World.alloc _ _=D;have c3:ad [] w2 D:=by rw[<- t];exact(ad.refl _ _).alloc _
 have j:hp D w2.heap.size=some (.cells (dN (0,0,0,0,0,0)).toArray 25):=by rw[<- t,af,bU rfl];rfl
 clear t;obtain⟨a,E⟩:∃q,q=w2.heap.size:=⟨_,rfl⟩
 rw[<- E]at j⊢;rw[st_25 rfl rfl (by rw[j];rfl) (by rw[j];rfl),j,au];have cp:ad [] w2 (Ev.put D a (dN c).toArray 25):=c3.put (.inr dB) _ _;have f:hp (Ev.put D a (dN c).toArray 25) a=some (.cells (dN c).toArray 25):=ar (aD j) _ _;have G:=(c1.trans c2).trans cp;have u:=cp.at (c2.at b8 (by simp)) (by simp);generalize Ev.put D a (dN c).toArray 25=Z at*;have cd:=(ad.refl [] Z).drew;have H:=G.trans cd;have x:an (hp Z a) (0+0)=some (bN (cW c)):=by obtain⟨x,_⟩:=cfl f;rw[n1]at x;exact x
 have I:=hA.ao H.below;have s:hp Z.drew a=some (.cells (dN c).toArray 25):=f;simp -implicitDefEqProofs (maxSteps:=3000000) only[fq,ag,x,fM s,ac,zS];have fin:∀(ops:List (List eu)) (g:World) (y:Nat) (vs:List Value),ad [] Z g->LL g y vs ops->(∀ l∈ops,∀o∈l,GenO o)->ops.length=cW c->ub ops<=40->
   aa prog 26 [.agg (dN c).toArray,.slice (some ⟨y,0,none⟩) (cW c) (cW c)] g λJ w'=>mV (ai prog (Instr.extract J 0)) λa3=>mV (ai prog (Instr.extract J 1)) λa4=>P20_0 (.slice B ps.length kb) (bS b) (bS a) a3 a4 w' (PlR 30 ps w):=by
  intro ops g y vs m a5 hg M ht;have O:=G.trans m;have R5:Rel g (λ_=>none):=⟨λ_ _ _ _ h=>(by cases h),λ_ _ h=>(by cases h)⟩
  have P:∀i,i<ops.length->(ops.getD i []).length<=1000:=λi hi=>by
   rw[cu,bX hi];have:=tot_ge (List.getElem_mem hi);show ops[i].length<=1000;omega
  have na:=c_NewArena (kk:=cW c) N rfl R5 a5.ops P dB;rw[M]at na;refine na.mono ?_;rintro _ w6 ⟨h,ab,T6,b7,cm,rfl,g6,P6⟩;simp -implicitDefEqProofs only[kG,kH,ac];apply L20_0_ok;have c6:ad [] g w6:=g6.aF.chg0 λk hk=>absurd rfl hk;have a6:=O.trans c6;have Q:=c6.at (m.at f (by simp)) (by simp);have b9:=c6.at (m.at u (by simp)) (by simp);have l6:an (hp w6 a) (0+0)=some (bN (cW c)):=by obtain⟨x,_⟩:=cfl Q;rw[n1]at x;exact x
  simp -implicitDefEqProofs (maxSteps:=3000000) only[L20_0,ptr,fq,ag,l6,Int.reduceBEq,ac,zS];refine(c_Picks (n:=cW c) dB dB (rdI_v (hB.ao a6.below))).mono ?_;rintro v w7 ⟨p,a7,op,c7⟩;obtain⟨Ap,kp,rfl,rp,np,_⟩:=aT op;have R6:=g6.rel;have R7:=R6.aF c7;have P7:=P6.aF R6 c7;have L7:Lo w7 T6 Ap (ints p):=⟨rp,λq hq _=>R6.fresh (np q hq).1⟩
  have PL:Played 30 ps c ops p:=played_ok hm h8 M hg ht a7 a1;refine(c_Run N R7 P7 dB L7 PL.run).mono ?_;rintro _ d ⟨_,T8,g8,P8⟩;have R:Gx (λ_=>True) g (λ_=>none) d T8:=(g6.trans (Gx.bL R6 c7)).trans g8;have z:ad [] g d:=R.aF.chg0 λk hk=>absurd rfl hk;have a8:=O.trans z;obtain⟨kv,ov,av,pv,lv,hv,F8⟩:=ar_f g8.rel P8.nd;obtain⟨As,cs,es,rs,ns,_⟩:=aT F8.rl;have es:lv= .slice As (oL c (iL c ops) p).l.length cs:=es;have S:an (hp d ab) (0+11)=some (.slice As (oL c (iL c ops) p).l.length cs):=by rw[<- es];exact F8.ld.2.2.2.2.2.1
  have rs:fp d As ((oL c (iL c ops) p).l.flatMap jS):=rs;have T:=z.at (m.at f (by simp)) (by simp);have U:=z.at (m.at u (by simp)) (by simp);have V:=(ad.refl [] d).drew;have C:hp d.drew a=some (.cells (dN c).toArray 25):=T;simp -implicitDefEqProofs (maxSteps:=3000000) only[ptr,ae,jZ,qI,S,fM C,ac,zS];have W:∀K:World->Prop,(K (Ev.put d.drew b (dN c).toArray 25))->ck prog (Instr.storeAt 25 (bS b) (.agg (dN c).toArray)) d.drew K:=λK hK=>by
   have r:hp d.drew b=some (.cells (dN (0,0,0,0,0,0)).toArray 25):=U;rw[st_25 rfl rfl (by rw[r];rfl) (by rw[r];rfl),r,au];exact hK
  have X:T8 b=none:=by
   have a9:b<g.heap.size:=aD (m.at u (by simp));exact R.non b a9 rfl
  have b2:ab≠b:=λe=>by
   have:=P8.nd;rw[e,X]at this;cases this
  have cz:ad [] w (Ev.put d.drew b (dN c).toArray 25):=(a8.trans V).put (.inr dB) _ _;have lz:gi prog 25 (bS b) (Ev.put d.drew b (dN c).toArray 25)=some (.agg (dN c).toArray):=fM (ar (aD (show hp d.drew b=_ from U)) _ _);have fz:an (hp (Ev.put d.drew b (dN c).toArray 25) ab) (0+11)=some (.slice As (oL c (iL c ops) p).l.length cs):=by rw[bj b2];exact S
  have rz:fp (Ev.put d.drew b (dN c).toArray 25) As ((oL c (iL c ops) p).l.flatMap jS):=by
   refine rd_off (w:=d) (F:=λq=>q=b) rs ?_ λp' b3 b4 e=>?_
   ·exact(bl.bL V _).sq (bl.put d.drew b _ _)
   ·have:=(F8.n.each 11 _ lv rfl rfl).2 p'.block (by rw[es,b3];rfl);rw[e,X]at this;cases this
  refine⟨?_,?_⟩
  ·refine W _ ?_;simp -implicitDefEqProofs only[lz,ac];exact⟨c,ops,p,As,cs,PL,rfl,rz,cz⟩
  ·refine W _ ?_;simp -implicitDefEqProofs only[fz,lz,ac];exact⟨c,ops,p,As,cs,PL,rfl,rz,cz⟩
 refine⟨?_,?_⟩
 ·refine(c_genOps (c:=k) I (n:=cW c) dB dB (mo:=30) dB).mono ?_;rintro _ g ⟨y,vs,L,rfl,h1,h2,h3,h4,_,m⟩;exact fin L g y vs (cd.trans m) h1 h2 h3 h4
 ·refine(c_genOps (c:=k) I (n:=cW c) dB dB (mo:=30) dB).mono ?_;rintro _ g ⟨y,vs,L,rfl,h1,h2,h3,h4,_,m⟩;have Y:=m.at s (by simp);simp -implicitDefEqProofs only[fM Y,ac];exact fin L g y vs (cd.trans m) h1 h2 h3 h4
end
section
variable{W w w':World}{v:Value}{l s t:List di}{A B As At:Option Addr}{k kb n cs ct q:Nat}{c:cx}{xs ps:List Int}
theorem c_bent(hl:l.length<=1000)(hA:fp W A (l.flatMap jS))(d C:Int):aa prog 24 [.slice A l.length k,bN d,bN C] W λv w'=>∃t,t.length=l.length/\OwS W w' v t:=by
 apply F24_ok;rw[F24];refine sp_copy (k:=k) dB hA λv n F=>?_;have fin:∀(t:List di) (c:World),t.length=l.length->OwS W c v t->P24_0 v c λv w'=>∃t,t.length=l.length/\OwS W w' v t:=λt c ht f=>by
  apply L24_0_ok;exact⟨t,ht,f⟩
 obtain⟨At,ct,ev,_⟩:=F.rd;have o:ai prog (Builtin.len_ #[26] 3 #[v])=some (bN l.length):=by rw[ev];exact iP
 by_cases P:l.length=0
 ·have e:(((l.length:Nat):Int)==0)=true:=by rw[P];rfl
  simp only[o,e,ac,zS];exact⟨l,rfl,F⟩
 have e:(((l.length:Nat):Int)==0)=false:=cH dB;have h7:(7:Int)≠0:=dC;have r:(11:Int)≠0:=dC;simp only[o,e,ac,zS];refine(nH d l.length n dB dB).step ?_;have Q:=Int.emod_nonneg d (b:=(l.length:Int)) dB;have a1:=Int.emod_lt_of_pos d (b:=(l.length:Int)) dB;obtain⟨i,ei⟩:∃i:Nat,d%(l.length:Int)=i:=⟨_,(dy Q).symm⟩
 rw[ei];have hi:i<l.length:=dB;simp only[o,kN h7,ac,zS];generalize IntKind.i64.wrap (d.tdiv 7)=M;refine(nH M l.length n dB dB).step ?_;have R:=Int.emod_nonneg M (b:=(l.length:Int)) dB;have a2:=Int.emod_lt_of_pos M (b:=(l.length:Int)) dB;obtain⟨j,ej⟩:∃j:Nat,M%(l.length:Int)=j:=⟨_,(dy R).symm⟩
 rw[ej];have hj:j<l.length:=dB;obtain⟨a,ha⟩:∃a,l[i]? =some a:=⟨_,bX hi⟩
 obtain⟨b,hb⟩:∃b,l[j]? =some b:=⟨_,bX hj⟩
 obtain⟨g,ix,rd,st⟩:=sp_row F ha;obtain⟨g',p,G,_⟩:=sp_row F hb;refine(nH C 11 n dB dB).step ?_;generalize C%11=z;have s:∀(a m:Int) (w:World) {K:Value->World->Prop},0<m->m<=1000->(∀ x:Int,K (bN x) w)->aa prog 11 [bN a,bN m] w K:=λa m w K P h1 hk=>(nH a m w P dB).step (hk _);have one:∀(a':di) (c:World),OwS W c v (l.set i a')->P24_0 v c λv w'=>∃t,t.length=l.length/\OwS W w' v t:=λa' c f=>fin _ c (by rw[cE]) f;by_cases z0:z=0
 ·have e:(z==0)=true:=by rw[z0];rfl
  simp only[e,kN r,ac,zS];refine s _ 9 n dB dB λx=>?_;simp only[ix,hH,kR,ac,Nat.add_zero];exact st 30 (bN x) 1 12 {a with re:=(x,a.re.2)} _ sz_30 ⟨rfl,rfl,dC⟩ dB rfl λc f=>one _ c f
 have q:(z==0)=false:=cH z0;by_cases z1:z=1
 ·have e:(z==1)=true:=by rw[z1];rfl
  have lv:an (hp n g) (i*20+12+7)=some (bR a.re.2.2.2):=rd 19 dB;simp only[q,e,ix,hH,fa_35_3,br,lv,aj,ac,zS];exact st 33 (bR (IntKind.u64.wrap (a.re.2.2.2+1))) 1 19 {a with re:=(a.re.1,a.re.2.1,a.re.2.2.1,IntKind.u64.wrap (a.re.2.2.2+1))} _ sz_33 ⟨rfl,rfl,dC⟩ dB rfl λc f=>one _ c f
 have y:(z==1)=false:=cH z1;by_cases z2:z=2
 ·have e:(z==2)=true:=by rw[z2];rfl
  have lv:an (hp n g) (i*20+12+6)=some (bN a.re.2.2.1):=rd 18 dB;simp only[q,y,e,ix,hH,fa_35_2,ag,lv,aH,ac,zS];exact st 3 (bN (IntKind.i64.wrap (1-a.re.2.2.1))) 1 18 {a with re:=(a.re.1,a.re.2.1,IntKind.i64.wrap (1-a.re.2.2.1),a.re.2.2.2)} _ aE ⟨rfl,rfl,dC⟩ dB rfl λc f=>one _ c f
 have B:(z==2)=false:=cH z2;by_cases z3:z=3
 ·have e:(z==3)=true:=by rw[z3];rfl
  have lv:gi prog 32 (.pointer (some ⟨g',j*20+12+1,none⟩)) n=some (.agg (ba b.re.2.1).toArray):=by
   rw[ld_32,mw 5 (j*20+12+1) (ba b.re.2.1) rfl λm u hm=>?_]
   ·rfl
   ·have S:m<5:=(bY.1 hm).1;have:=G (13+m) dB;rw[show j*20+12+1+m=j*20+(13+m)by omega,this];match m,S,hm with
    |0,_,hm=>exact hm
    |1,_,hm=>exact hm
    |2,_,hm=>exact hm
    |3,_,hm=>exact hm
    |4,_,hm=>exact hm
  simp only[q,y,B,e,ix,p,hH,iS,lv,ac,zS];exact st 32 (.agg (ba b.re.2.1).toArray) 5 13 {a with re:=(a.re.1,b.re.2.1,a.re.2.2)} _ lP ⟨rfl,rfl,dC⟩ dB rfl λc f=>one _ c f
 have D:(z==3)=false:=cH z3;by_cases z4:z=4
 ·have e:(z==4)=true:=by rw[z4];rfl
  have lv:an (hp n g) (i*20+12+1+1)=some (bN a.re.2.1.2.1):=rd 14 dB;simp only[q,y,B,D,e,ix,hH,iS,gm,ag,lv,aj,ac,zS];exact st 3 (bN (IntKind.i64.wrap (a.re.2.1.2.1+1))) 1 14 {a with re:=(a.re.1,(a.re.2.1.1,IntKind.i64.wrap (a.re.2.1.2.1+1),a.re.2.1.2.2),a.re.2.2)} _ aE ⟨rfl,rfl,dC⟩ dB rfl λc f=>one _ c f
 have E:(z==4)=false:=cH z4;by_cases z5:z=5
 ·have e:(z==5)=true:=by rw[z5];rfl
  have lv:an (hp n g) (i*20+12+1+2)=some (bN a.re.2.1.2.2.1):=rd 15 dB;simp only[q,y,B,D,E,e,ix,hH,iS,eX,ag,lv,aj,ac,zS];exact st 3 (bN (IntKind.i64.wrap (a.re.2.1.2.2.1+1))) 1 15 {a with re:=(a.re.1,(a.re.2.1.1,a.re.2.1.2.1,IntKind.i64.wrap (a.re.2.1.2.2.1+1),a.re.2.1.2.2.2),a.re.2.2)} _ aE ⟨rfl,rfl,dC⟩ dB rfl λc f=>one _ c f
 have H:(z==5)=false:=cH z5;by_cases z6:z=6
 ·have e:(z==6)=true:=by rw[z6];rfl
  have lv:an (hp n g) (i*20+12+1+3)=some (bN a.re.2.1.2.2.2.1):=rd 16 dB;simp only[q,y,B,D,E,H,e,ix,hH,iS,hC,ag,lv,aj,ac,zS];exact st 3 (bN (IntKind.i64.wrap (a.re.2.1.2.2.2.1+1))) 1 16 {a with re:=(a.re.1,(a.re.2.1.1,a.re.2.1.2.1,a.re.2.1.2.2.1,IntKind.i64.wrap (a.re.2.1.2.2.2.1+1),a.re.2.1.2.2.2.2),a.re.2.2)} _ aE ⟨rfl,rfl,dC⟩ dB rfl λc f=>one _ c f
 have O:(z==6)=false:=cH z6;by_cases z7:z=7
 ·have e:(z==7)=true:=by rw[z7];rfl
  simp only[q,y,B,D,E,H,O,e,kN r,ac,zS];refine s _ 9 n dB dB λx=>?_;simp only[ix,jr,iB,ac];exact st 3 (bN x) 1 4 {a with op:=(a.op.1,a.op.2.1,x,a.op.2.2.2)} _ aE ⟨rfl,rfl,dC⟩ dB rfl λc f=>one _ c f
 have T:(z==7)=false:=cH z7;by_cases z8:z=8
 ·have e:(z==8)=true:=by rw[z8];rfl
  simp only[q,y,B,D,E,H,O,T,e,kN r,ac,zS];refine s _ 13 n dB dB λx=>?_;simp only[ix,jr,am,aj,ac,Nat.add_zero];exact st 3 (bN (IntKind.i64.wrap (1+x))) 1 2 {a with op:=(IntKind.i64.wrap (1+x),a.op.2)} _ aE ⟨rfl,rfl,dC⟩ dB rfl λc f=>one _ c f
 have e8:(z==8)=false:=cH z8;by_cases z9:z=9
 ·have e:(z==9)=true:=by rw[z9];rfl
  have Od:=F.aF (ad.refl [] n).drew;obtain⟨g2,I,a3,U⟩:=sp_row Od ha;rw[ix]at I;cases I;obtain⟨g3,J,a4,_⟩:=sp_row Od hb;rw[p]at J;cases J;have lv:an (hp n g) (i*20+9)=some (bN a.pt):=rd 9 dB;have V:an (hp n g') (j*20+9)=some (bN b.pt):=G 9 dB;simp only[q,y,B,D,E,H,O,T,e8,e,ix,p,kS,ag,lv,V,ac,zS];refine U 3 (bN b.pt) 1 9 {a with pt:=b.pt} _ aE ⟨rfl,rfl,dC⟩ dB rfl λc f=>?_;obtain⟨X,Y⟩:∃X,(l.set i {a with pt:=b.pt})[j]? =some X:=⟨_,bX (by rw[cE];exact hj)⟩
  obtain⟨g6,L,_,Z⟩:=sp_row f Y;rw[p]at L;cases L;try simp only[p,kS,ac]
  exact Z 3 (bN a.pt) 1 9 {X with pt:=a.pt} _ aE ⟨rfl,rfl,dC⟩ dB rfl λw7 O7=>fin _ w7 (by simp only[cE]) O7
 have e9:(z==9)=false:=cH z9;simp only[q,y,B,D,E,H,O,T,e8,e9,kN r,ac,zS];refine s _ 20 n dB dB λx=>?_;simp only[ix,jr,bc,ac];exact st 3 (bN x) 1 5 {a with op:=(a.op.1,a.op.2.1,a.op.2.2.1,x,a.op.2.2.2.2)} _ aE ⟨rfl,rfl,dC⟩ dB rfl λc f=>one _ c f
theorem c_checks(E:sZ .i64 W A xs)(F:sZ .i64 W B ps)(n a e:Int):
  aa prog 8 [bN n,.slice A xs.length k,.slice B ps.length kb,bN a,bN e] W λv w'=>v= .bool true/\ad [] W w':=by
 apply F8_ok;rw[F8];refine(c_first25 W).mono ?_;rintro _ w1 ⟨rfl,f⟩;by_cases g:(xs.length:Int)>300
 ·simp only[aQ,fS,g,decide_true,ac,zS];exact⟨by first|rfl|trivial,f⟩
 by_cases i:(ps.length:Int)>150
 ·simp only[aQ,fS,g,i,decide_true,decide_false,ac,zS];exact⟨by first|rfl|trivial,f⟩
 simp only[aQ,fS,g,i,decide_true,decide_false,ac,zS];refine(c_played25 (E.ao f.below) (F.ao f.below) dB n).mono ?_;rintro _ w2 ⟨c,ops,p,As,cs,x,rfl,y,G⟩;have o:(oL c (iL c ops) p).l.length<=300:=by have:=x.inv.l;have:=x.pl;omega
 generalize (oL c (iL c ops) p).l=s at*;simp only[kG,kH,ac,al_25];generalize r:World.alloc _ _=j;have H:ad [] w2 j:=by rw[<- r];exact(ad.refl _ _).alloc _
 have m:hp j w2.heap.size=some (.cells (dN (0,0,0,0,0,0)).toArray 25):=by rw[<- r,af,bU rfl];rfl
 clear r;obtain⟨q,I⟩:∃q,q=w2.heap.size:=⟨_,rfl⟩
 rw[<- I]at m⊢;rw[st_25 rfl rfl (by rw[m];rfl) (by rw[m];rfl),m,au];have b:ad [] w2 (Ev.put j q (dN c).toArray 25):=H.put (.inr dB) _ _;have z:hp (Ev.put j q (dN c).toArray 25) q=some (.cells (dN c).toArray 25):=ar (aD m) _ _;generalize Ev.put j q (dN c).toArray 25=C at*;have u:=(f.trans G).trans b;have D:=(ad.refl [] C).drew;have w:hp C.drew q=some (.cells (dN c).toArray 25):=z;simp only[fM w,ac,zS];refine ib (c_says25 o ((y.ao b.below).ao D.below) c) ?_;rintro _ J rfl K;have d:=D.trans K;simp only[fM (d.at z (by simp)),ac,zS];refine ib (R:=λv w'=>∃t,t.length=s.length/\OwS J w' v t) ((c_bent dB ((y.ao b.below).ao d.below) a e).mono λv w' ⟨t,g,i⟩=>⟨⟨t,g,i⟩,i.ch⟩) ?_;rintro v P ⟨t,Q,L⟩ M;obtain⟨At,ct,rfl,rt⟩:=L.rd;try simp only[ac,zS]
 refine ib (c_says25 dB rt c) ?_;rintro _ S rfl O;simp only[ac,zS];exact⟨by first|rfl|trivial,((u.trans d).trans M).trans O⟩
theorem lawChecksT{W:World}(e:Int)(_:(Lit.int .i64 e).wf=true)(A:Option Addr)(n c:Nat)(zs:List Int)(h:InInts .i64 W A n c zs)(j:Option Addr)(f k:Nat)(a:List Int)(o:InInts .i64 W j f k a)(g:Int)(_:(Lit.int .i64 g).wf=true)(i:Int)(_:(Lit.int .i64 i).wf=true):
  aa prog 8 [bN e,.slice A n c,.slice j f k,bN g,bN i] W λv w'=>v= .bool true/\Below W.heap.size W w':=by
 obtain⟨l,m,q,_,_⟩:=h.rd;obtain⟨b,d,p,_,_⟩:=o.rd;generalize zs.take n=xs at l m;generalize a.take f=r at b d;subst m d;exact(c_checks l b e g i).mono λ_ _ h=>⟨h.1,h.2.below⟩
end
end Go.Proofs.YtnpflajdbchghaaGreat
