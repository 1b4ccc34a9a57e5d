/- Parts of the proof of SearchFinds, one behind the other. Conditions: none. -/
import Derived.Test.YtnpflajdbchghaaGreatZSearchFinds9
set_option linter.unusedSimpArgs false
set_option linter.unusedVariables false
set_option maxHeartbeats 4000000
set_option maxRecDepth 10000
noncomputable section
namespace Go.Proofs.YtnpflajdbchghaaGreat
open Tryz(prog)
open Go Ev Go.RowKit
theorem c_iIndex{w:World}{A:Option Addr}{c:Nat}{L:List Int}(t:rr .i64 w A L)(D:L.length<=1000000)(x:Int):aa prog 72 [.slice A L.length c,bS x] w λv k=>v=bS (nH L x)/\k=w:=by
 apply F72_ok;simp only[F72,zS,aK];have b:∀(d i:Nat),(∀ (j:Nat) (y:Int),j<i->L[j]? =some y->y≠x)->i+d=L.length->
   P72_0 (.slice A L.length c) (bS x) (bS L.length) (bS i) w λv k=>v=bS (nH L x)/\k=w:=by
  intro d;induction d with
  |zero=>
   intro i g u;apply L72_0_ok;have:¬(i:Int)<L.length:=dy;simp only[L72_0,zS,this];rw[pS λj y hj=>g j y (by have:=(ce.1 hj).1;omega) hj];exact⟨rfl,trivial⟩
  |succ d B=>
   intro i g u;apply L72_0_ok;have f:(i:Int)<L.length:=dy;have l:i<L.length:=dy;obtain⟨q,s,m⟩:=t.at (P:=prog) (c:=c) (j:= .i64) Tryz.underlying22 Tryz.underlying3 aE (i:=(i:Int)) dy dy;obtain⟨y,o⟩:∃y,L[i]? =some y:=⟨_,bZ l⟩
   have C:L.getD i 0=y:=by rw[cu,o];rfl
   rw[cq,C]at m;by_cases a:x=y
   ·have e:(x==y)=true:=by rw[a];simp
    simp only[L72_0,zS,f,s,m,e];rw[ti o a.symm g];exact⟨rfl,trivial⟩
   ·simp only[L72_0,zS,f,s,m,bn a,aj,ap (n:=(i:Int)+1) dy dy];have:=B (i+1) (λj z hj p=>by
     rcases cZ j i with h1|h1
     ·exact g j z h1 p
     ·have:j=i:=dy;subst this;rw[o]at p;cases p;exact λe=>a e.symm) dy
    rw[db i 1]at this;exact this
 exact b L.length 0 (λj r hj=>dy) dy
theorem aO.none{F:Fp}(h:∀k,¬F k)(w:World):aO F ck w w:=⟨aW.refl _ _,λk a=>a.elim⟩
theorem jP.slotSet{w:World}{g:Nat}{m:dv}{F:Fp}(h:jP w g m F){i:Nat}{p p':iD}(e:m.slots[i]? =some p){k:Nat}(n:k<2){x:Int}(t:gD p'=(gD p).set k (bS x)):
  ∃b c,ao (hp w g) (0+7)=some (.slice (some ⟨b,0,none⟩) m.slots.length c)/\mX (hp w b) (i*2+k+1)=true/\
   ∃l,jP (put w b ((dG (hp w b)).setIfInBounds (i*2+k) (bS x)) (dH (hp w b))) g {m with slots:=m.slots.set i p'} l/\aO F l w (put w b ((dG (hp w b)).setIfInBounds (i*2+k) (bS x)) (dH (hp w b))):=by
 obtain⟨v,J,K,y,r,o,z,A,_⟩:=dV.cell h (gF m) (k:=7) (P:=jd m.slots) rfl;obtain⟨u,B⟩:∃u,(gD p)[k]? =some u:=⟨_,bZ (by simpa [gD]using n)⟩
 have C:((m.slots.flatMap gD).map hN)[i*2+k]? =some (hN u):=by
  rw[cM,ba mE m.slots i p e k n,B];rfl
 obtain⟨b,c,L,D,E,_,_,_,_,q,_,G⟩:=aL.cell z (fZ (qD m.slots)) C;obtain⟨ok,s,a,f⟩:=G w ck (hN (bS x)) (bS x) (aO.none q.2 w) (bH _ _) ⟨rfl,λ_ h=>h⟩;have j:((m.slots.flatMap gD).map hN).set (i*2+k) (hN (bS x))=((m.slots.set i p').flatMap gD).map hN:=by
  rw[<- List.map_set,flatM_set mE n t m.slots i e]
 rw[j]at a;have d:jd (m.slots.set i p') (put w b ((dG (hp w b)).setIfInBounds (i*2+k) (bS x)) (dH (hp w b))) s v:=by
  rw[jd,cE];exact a
 obtain⟨l,H,I⟩:=A _ s (jd (m.slots.set i p')) f d;exact⟨b,c,by rw[<- E];exact o,ok,l,H,I⟩
theorem gA{α β:Type}{f:α->List β}{z:Nat}(h:∀x,(f x).length=z){k:Nat}{p:β}(a:k<z){x x':α}(b:f x'=(f x).set k p){L:List α}{i:Nat}(c:L[i]? =some x):(L.flatMap f).set (i*z+k) p=(L.set i x').flatMap f:=flatM_set h a b L i c
theorem jP.rgCell{w:World}{g:Nat}{m:dv}{F:Fp}(h:jP w g m F){i:Nat}{r:eO}(z:m.rgs[i]? =some r){k:Nat}(A:k<7){P:Th}(M:(rgT r)[k]? =some P):
  ∃b c v p,ao (hp w g) (0+8)=some (.slice (some ⟨b,0,none⟩) m.rgs.length c)/\¬p b/\(∀ x,p x->F x)/\F b/\b≠g/\ao (hp w b) (i*7+k)=some v/\P w p v/\
   (∀ w1 l P' r',aO p l w w1->P' w1 l v->rgT r'=(rgT r).set k P'->∃f,jP w1 g {m with rgs:=m.rgs.set i r'} f/\aO F f w w1)/\
   (∀ w1 l P' v' r',aO p l w w1->dO P'->P' w1 l v'->rgT r'=(rgT r).set k P'->mX (hp w1 b) (i*7+k+1)=true/\∃f,jP (put w1 b ((dG (hp w1 b)).setIfInBounds (i*7+k) v') (dH (hp w1 b))) g {m with rgs:=m.rgs.set i r'} f/\aO F f w (put w1 b ((dG (hp w1 b)).setIfInBounds (i*7+k) v') (dH (hp w1 b)))):=by
 obtain⟨rv,Fr,S,B,n,C,O,o,_⟩:=dV.cell h (gF m) (k:=8) (P:=km m.rgs) rfl;have D:(m.rgs.flatMap rgT)[i*7+k]? =some P:=(ba qF m.rgs i r z k A).trans M;obtain⟨b,c,v,p,E,t,G,q,y,hv,Q,R⟩:=aL.cell O (jB m.rgs) D;refine⟨b,c,v,p,by rw[<- E];exact C,G,λx E=>n x (q x E),n b t,λe=>B (by rw[<- e];exact t),y,hv,λw1 l P' r' u hp s=>?_,λw1 l P' v' r' u H I s=>?_⟩
 ·obtain⟨f,a,j⟩:=Q w1 l P' u hp;rw[gA qF A s z]at a;have d:km (m.rgs.set i r') w1 f rv:=by rw[km,cE];exact a
  obtain⟨J,K,L⟩:=o w1 f (km (m.rgs.set i r')) j d;exact⟨J,K,L⟩
 ·obtain⟨ok,f,a,j⟩:=R w1 l P' v' u H I;rw[gA qF A s z]at a;have d:km (m.rgs.set i r') (put w1 b ((dG (hp w1 b)).setIfInBounds (i*7+k) v') (dH (hp w1 b))) f rv:=by rw[km,cE];exact a
  obtain⟨J,K,L⟩:=o _ f (km (m.rgs.set i r')) j d;exact⟨ok,J,K,L⟩
theorem jP.hdCell{w:World}{g:Nat}{m:dv}{F:Fp}(h:jP w g m F){i:Nat}{d:nj}(I:m.hands[i]? =some d){k:Nat}(J:k<2){P:Th}(K:(hdT d)[k]? =some P):
  ∃b c v n,ao (hp w g) (0+9)=some (.slice (some ⟨b,0,none⟩) m.hands.length c)/\¬n b/\(∀ x,n x->F x)/\F b/\b≠g/\ao (hp w b) (i*2+k)=some v/\P w n v/\
   (∀ w1 y P' v' o,aO n y w w1->dO P'->P' w1 y v'->hdT o=(hdT d).set k P'->mX (hp w1 b) (i*2+k+1)=true/\∃p,jP (put w1 b ((dG (hp w1 b)).setIfInBounds (i*2+k) v') (dH (hp w1 b))) g {m with hands:=m.hands.set i o} p/\aO F p w (put w1 b ((dG (hp w1 b)).setIfInBounds (i*2+k) v') (dH (hp w1 b)))):=by
 obtain⟨rv,Fr,S,z,a,A,L,q,_⟩:=dV.cell h (gF m) (k:=9) (P:=ij m.hands) rfl;have B:(m.hands.flatMap hdT)[i*2+k]? =some P:=(ba tf m.hands i d I k J).trans K;obtain⟨b,c,v,n,C,r,D,j,s,hv,T,M⟩:=aL.cell L (good_hdL m.hands) B;refine⟨b,c,v,n,by rw[<- C];exact A,D,λx C=>a x (j x C),a b r,λe=>z (by rw[<- e];exact r),s,hv,λw1 y P' v' o u E G H=>?_⟩;obtain⟨ok,p,f,t⟩:=M w1 y P' v' u E G;rw[gA tf J H I]at f;have l:ij (m.hands.set i o) (put w1 b ((dG (hp w1 b)).setIfInBounds (i*2+k) v') (dH (hp w1 b))) p rv:=by rw[ij,cE];exact f
 obtain⟨O,Q,R⟩:=q _ p (ij (m.hands.set i o)) t l;exact⟨ok,O,Q,R⟩
abbrev jo:=Int×eF×Int×Int
def fI(r:jo):List Value:= [bS r.1,bS r.2.1.1,bS r.2.1.2.1,bS r.2.1.2.2.1,bS r.2.1.2.2.2.1,bS r.2.1.2.2.2.2,bS r.2.2.1,bT r.2.2.2]
def kY:eF:=(0,0,0,0,0)
def lV:jo:=(0,kY,0,0)
def bL(c:Int):jo:=(c,kY,0,0)
def dW(h:eF):iD:=(h.1,h.2.1)
def rgOf(m:dv)(n:iD):Option eO:=(ek m.rgs n).bind (m.rgs[·]?)
def qG(r:eO)(a:Int):List Int:=r.words.getD (nH r.chunks a).toNat []
def gX(m:dv)(h:eF)(n:Int):Int:=match rgOf m (dW h)with
 |some r=>(qG r h.2.2.1).getD (h.2.2.2.1+n).toNat 0
 |none=>0
def setW(r:eO)(h:eF)(n x:Int):eO:={r with words:=r.words.set (nH r.chunks h.2.2.1).toNat ((qG r h.2.2.1).set (h.2.2.2.1+n).toNat x)}
def dX(m:dv)(h:eF)(n x:Int):dv:=match ek m.rgs (dW h)with
 |some i=>(match m.rgs[i]? with|some r=>{m with rgs:=m.rgs.set i (setW r h n x)}|none=>m)
 |none=>m
def eV(m:dv)(o:ez)(h:eF):jo:=
 if o.1=6\/o.1=8 then(0,kY,0,gX m h o.2.2.2.1)
 else if o.1=9 then(0,kY,if gX m h o.2.2.2.1=o.2.2.2.2.1 then 1 else 0,0)
 else if o.1=12 then(0,kY,(match rgOf m (dW h)with|some r=>r.off|none=>0),0)
 else lV
def dI(m:dv)(w:Int)(o:ez)(h:eF):jo×Bool:=
 if jQ m w o=false then(lV,false)
 else match m.hands[w.toNat]? with
 |none=>(lV,false)
 |some d=>
  if cf m d o h≠0 then(bL (cf m d o h),true)
  else if o.1=1\/o.1=2 then(lV,false)
  else(eV m o h,true)
def gI(m:dv)(w:Int)(d:nj):dv:={m with hands:=m.hands.set w.toNat d}
def fF(m:dv)(w:Int)(o:ez)(h:eF):dv:=match m.hands[w.toNat]? with
 |none=>m
 |some d=>
  if o.1=3 then gI m w {d with depth:=d.depth+1}
  else if o.1=4 then gI m w (if d.depth-1=0 then{depth:=0,holds:= []}else{d with depth:=d.depth-1})
  else if o.1=5 then(if eN d h then m else gI m w {d with holds:=d.holds++ [dW h]})
  else if o.1=7 then dX m h o.2.2.2.1 o.2.2.2.2.1
  else if o.1=8 then dX m h o.2.2.2.1 (IntKind.u64.wrap (gX m h o.2.2.2.1+o.2.2.2.2.1))
  else if o.1=9 then(if gX m h o.2.2.2.1=o.2.2.2.2.1 then dX m h o.2.2.2.1 o.2.2.2.2.2 else m)
  else if o.1=10 then(match m.slots[h.1.toNat]? with|some p=>{m with slots:=m.slots.set h.1.toNat (if m.loose then 0 else 2,p.2)}|none=>m)
  else m
def bF(g:Int):Int:=if g<4294967295 then g+1 else 0
def cx(m:dv)(cls:Int)(r:jo):Bool×dv:=
 if r=bL 7 then(m.loose||decide (gy m.slots=0),m)
 else if 0<=r.2.1.1/\r.2.1.1<m.slots.length then(match m.slots[r.2.1.1.toNat]? with
  |some p=>if p.1≠0 then(false,m)else if r=(0,(r.2.1.1,bF p.2,0,0,0),0,0)then
    (true,{m with slots:=m.slots.set r.2.1.1.toNat (1,bF p.2),rgs:=m.rgs++ [⟨(r.2.1.1,bF p.2),cls,0, [], [], []⟩]})else(false,m)
  |none=>(false,m))
 else(false,m)
def jC(m:dv)(a:Int):Bool:=m.rgs.any λr=>fO m r.nm&&decide (a∈r.chunks)
def lJ(words need:Int)(r:eO)(want:eF):eO:=
 if ef r words need then{r with off:=r.off+need,objs:=r.objs++ [want]}
 else{r with chunks:=r.chunks++ [want.2.2.1],words:=r.words++ [List.replicate words.toNat 0],off:=eI words need,objs:=r.objs++ [want]}
def ou(words need n:Int)(r:eO)(h:eF)(a:Int):eF:=if ef r words need then(h.1,h.2.1,iO r.chunks,r.off,n)else(h.1,h.2.1,a,0,n)
def gB(m:dv)(n:Int)(h:eF)(r:jo):Bool×dv:=match ek m.rgs (dW h)with
 |none=>(false,m)
 |some i=>match m.rgs[i]? with
  |none=>(false,m)
  |some x=>
   let need:=bW x.cls n
   let a:=ef x m.c.2.2.1 need
   let want:=ou m.c.2.2.1 need n x h r.2.1.2.2.1
   if a=false/\r=bL 6 then(true,m)
   else if a=false/\(r.2.1.2.2.1<0\/m.c.2.1<=r.2.1.2.2.1\/jC m r.2.1.2.2.1=true)then(false,m)
   else if r=(0,want,0,0)then(true,{m with rgs:=m.rgs.set i (lJ m.c.2.2.1 need x want)})
   else(false,m)
def lY(m:dv)(w:Int)(o:ez)(h:eF)(r:jo):Bool×dv:=
 if jQ m w o=false then(false,m)
 else if(dI m w o h).2=true then
  (if r=(dI m w o h).1 then(true,if r.1=0 then fF m w o h else m)else(false,m))
 else if o.1=1 then cx m o.2.2.2.1 r
 else gB m o.2.2.2.1 h r
structure WfR(words:Int)(k:Nat)(r:eO):Prop where
 cl:r.chunks.length<=k
 wl:r.words.length=r.chunks.length
 ww:∀L∈r.words,(L.length:Int)=words
 ol:r.objs.length<=k
 ob:∀h∈r.objs,h.2.2.1∈r.chunks/\0<=h.2.2.2.1/\1<=h.2.2.2.2/\h.2.2.2.1+h.2.2.2.2<=words
 bV:0<=r.off
 ofw:r.off<=words
structure Wf(m:dv)(k:Nat):Prop where
 w1:1<=m.c.2.2.1
 w2:m.c.2.2.1<=1024
 sl:m.slots.length<=1000000
 sg:∀p∈m.slots,0<=p.2/\p.2<=4294967295
 hd:∀d∈m.hands,0<=d.depth/\d.depth<=15/\d.holds.length<=8
 rl:m.rgs.length<=k
 rg:∀r∈m.rgs,WfR m.c.2.2.1 k r
theorem Wf.small{m:dv}{k:Nat}(h:Wf m k)(a:k<=1000000):Small m:=
 ⟨cQ h.rl a,λr b=>cQ (h.rg r b).ol a,λd c=>by have:=(h.hd d c).2.2;omega⟩
theorem WfR.mono{words:Int}{k l:Nat}{r:eO}(h:WfR words k r)(a:k<=l):WfR words l r:=⟨cQ h.cl a,h.wl,h.ww,cQ h.ol a,h.ob,h.bV,h.ofw⟩
theorem Wf.mono{m:dv}{k l:Nat}(h:Wf m k)(a:k<=l):Wf m l:=⟨h.w1,h.w2,h.sl,h.sg,h.hd,cQ h.rl a,λr b=>(h.rg r b).mono a⟩
theorem ox{L:List eO}{n:iD}{i:Nat}(h:ek L n=some i):∃r,L[i]? =some r/\r.nm=n:=by
 rw[ek,List.findIdx?_eq_some_iff_getElem]at h;obtain⟨a,hp,_⟩:=h;exact⟨L[i],bZ a,by simpa using hp⟩
theorem ixOf_at{α:Type} [DecidableEq α]{L:List α}{x:α}(h:x∈L):∃i:Nat,nH L x=i/\L[i]? =some x:=by
 have a:=sy L x;rw[cj h,decide_eq_true_eq]at a;unfold nH at a⊢;split at a
 ·rename_i i b;rw[List.findIdx?_eq_some_iff_getElem]at b;obtain⟨c,hp,_⟩:=b;exact⟨i,rfl,by rw[bZ c];simpa using hp⟩
 ·omega
theorem WfR.setW{words:Int}{k:Nat}{r:eO}(h:WfR words k r)(a:eF)(n x:Int):WfR words k (setW r a n x):=by
 refine⟨h.cl,by simp[Go.Proofs.YtnpflajdbchghaaGreat.setW,h.wl],λL b=>?_,h.ol,h.ob,h.bV,h.ofw⟩;rcases List.mem_or_eq_of_mem_set b with h1|h1
 ·exact h.ww L h1
 ·rw[h1,cE];by_cases c:(nH r.chunks a.2.2.1).toNat<r.words.length
  ·apply h.ww;rw[qG,cu,bZ c];exact List.getElem_mem c
  ·rw[Go.Proofs.YtnpflajdbchghaaGreat.setW,List.set_eq_of_length_le dy]at b;have e:qG r a.2.2.1= []:=by rw[qG,cu,df dy];rfl
   rw[e]at h1;simp at h1;have:=h.ww L b;rw[h1]at this;rw[e];exact this
theorem mem_set{α:Type}{p:α->Prop}{L:List α}{i:Nat}{x:α}(h:∀y∈L,p y)(a:p x):∀y∈L.set i x,p y:=λy b=>by
 rcases List.mem_or_eq_of_mem_set b with h1|h1
 ·exact h y h1
 ·rw[h1];exact a
theorem Wf.setRg{m:dv}{k:Nat}(h:Wf m k){i:Nat}{r:eO}(a:WfR m.c.2.2.1 k r):Wf {m with rgs:=m.rgs.set i r} k:=
 ⟨h.w1,h.w2,h.sl,h.sg,h.hd,by simpa using h.rl,mem_set h.rg a⟩
theorem Wf.gI{m:dv}{k:Nat}(h:Wf m k){w:Int}{d:nj}(a:0<=d.depth/\d.depth<=15/\d.holds.length<=8):Wf (gI m w d) k:=
 ⟨h.w1,h.w2,h.sl,h.sg,mem_set h.hd a,h.rl,h.rg⟩
theorem Wf.setSl{m:dv}{k:Nat}(h:Wf m k){i:Nat}{p:iD}(hp:0<=p.2/\p.2<=4294967295):Wf {m with slots:=m.slots.set i p} k:=
 ⟨h.w1,h.w2,by simpa using h.sl,mem_set h.sg hp,h.hd,h.rl,h.rg⟩
theorem Wf.qH{m:dv}{k:Nat}(h:Wf m k)(a:eF)(n x:Int):Wf (dX m a n x) k:=by
 unfold dX;split
 ·split
  ·rename_i r b;exact h.setRg ((h.rg r (cD b)).setW a n x)
  ·exact h
 ·exact h
theorem later_ok{g:Int}(h:0<=g):0<=bF g/\bF g<=4294967295:=by unfold bF;split<;>omega
theorem right_need{words need:Int}(h:iN words need=true):1<=need/\need<=words:=by have:=pU h;omega
theorem pV{r:eO}{words need:Int}(h:ef r words need=true):0<r.chunks.length/\1<=need/\0<=r.off/\r.off+need<=words:=by
 simp only[ef,mf,de,Bool.not_eq_true',decide_eq_true_eq]at h;have:=right_need h.2.1;omega
theorem after_ok{words need:Int}(a:0<=words):0<=eI words need/\eI words need<=words:=by
 unfold eI;split
 ·rename_i h;have:=right_need h;split<;>omega
 ·omega
theorem newV_mem{l:List Int}(h:0<l.length):iO l∈l:=by
 rw[iO,bY dy,cu,bZ dy];exact List.getElem_mem _
theorem round_ge{cls n:Int}(a:1<=n)(b:n<=1024):n<=bW cls n/\bW cls n<=1031:=by
 rw[bW,bY dy];have:stepOf cls=1\/stepOf cls=2\/stepOf cls=4\/stepOf cls=8:=by unfold stepOf;repeat' split;all_goals omega
 unfold hH;rcases this with h|h|h|h<;>rw[h]<;>omega
theorem WfR.grow{words:Int}{k:Nat}{r:eO}(h:WfR words k r)(c:0<=words){n need:Int}(d:1<=n)(e:n<=words)(f:n<=need)(a:eF)(g:Int):WfR words (k+1) (lJ words need r (ou words need n r a g)):=by
 unfold lJ ou;cases i:ef r words need with
 |true=>
  obtain⟨f1,o,j,l⟩:=pV i;simp only[if_true];refine⟨by have:=h.cl;simp only;omega,h.wl,h.ww,by have:=h.ol;simp;omega,λx b=>?_,by show 0<=r.off+need;omega,l⟩;rcases List.mem_append.1 b with h1|h1
  ·exact h.ob x h1
  ·rw[dh.1 h1];exact⟨newV_mem f1,j,d,by show r.off+n<=words;omega⟩
 |false=>
  simp only[Bool.false_eq_true,if_false];refine⟨by have:=h.cl;simp;omega,by simp[h.wl],λL m=>?_,by have:=h.ol;simp;omega,λx b=>?_,(after_ok c).1,(after_ok c).2⟩
  ·rcases List.mem_append.1 m with h1|h1
   ·exact h.ww L h1
   ·rw[dh.1 h1,dt];omega
  ·rcases List.mem_append.1 b with h1|h1
   ·have:=h.ob x h1;exact⟨List.mem_append_left _ this.1,this.2⟩
   ·rw[dh.1 h1];exact⟨List.mem_append_right _ (by simp),by show(0:Int)<=0;omega,d,by show 0+n<=words;omega⟩
theorem may_n{m:dv}{w:Int}{o:ez}(h:jQ m w o=true):0<=w/\w<m.hands.length/\0<=o.2.2.2.1:=by
 simp only[jQ,jz,de,decide_eq_true_eq]at h;exact⟨h.1,h.2.1,h.2.2.2.2.2.1.1⟩
theorem refuses_n{m:dv}{d:nj}{o:ez}{h:eF}(a:cf m d o h=0)(f:o.1=2):1<=o.2.2.2.1/\o.2.2.2.1<=m.c.2.2.1/\fO m (dW h)=true/\eH m h 1=true:=by
 unfold cf at a;split at a
 ·omega
 ·rename_i g;have e:gH o.1=1:=by rw[f];rfl
  rw[e]at g;rw[dZ,bX f]at a;split at a
  ·omega
  ·refine⟨dy,dy,?_,?_⟩
   ·unfold eJ at a;split at a
    ·assumption
    ·omega
   ·cases b:eH m h 1 with
    |true=>rfl
    |false=>exact absurd ⟨dy,b⟩ g
theorem jM{m:dv}{d:nj}{o:ez}{h:eF}(a:cf m d o h=0):(gH o.1=0\/eH m h (gH o.1)=true)/\dZ m.c.2.2.1 d (eN d h) (eJ m h) o h.2.2.2.2=0:=by
 unfold cf at a;split at a
 ·omega
 ·rename_i f;refine⟨?_,a⟩;by_cases e:gH o.1=0
  ·exact .inl e
  ·right;cases b:eH m h (gH o.1)with
   |true=>rfl
   |false=>exact absurd ⟨e,b⟩ f
theorem Wf.does{m:dv}{k:Nat}(h:Wf m k){w:Int}{o:ez}{a:eF}{d:nj}(f:m.hands[w.toNat]? =some d)(i:cf m d o a=0):Wf (fF m w o a) k:=by
 have b:=(jM i).2;have c:=h.hd d (cD f);unfold fF;rw[f];simp only;split
 ·rename_i e;rw[dZ,bY dy,bX e]at b;refine h.gI ⟨by simp only;omega,?_,c.2.2⟩;split at b
  ·omega
  ·simp only;omega
 split
 ·rename_i e g;rw[dZ,bY dy,bY dy,bX g]at b;refine h.gI ?_;split
  ·exact⟨dj _,dz,cX _⟩
  ·refine⟨?_,by simp only;omega,c.2.2⟩;split at b
   ·omega
   ·simp only;omega
 split
 ·rename_i e g j;rw[dZ,bY dy,bY dy,bY dy,bX j]at b;split
  ·exact h
  ·rename_i l;refine h.gI ⟨c.1,c.2.1,?_⟩;split at b
   ·omega
   ·split at b
    ·omega
    ·simp;omega
 split
 ·exact h.qH _ _ _
 split
 ·exact h.qH _ _ _
 split
 ·split
  ·exact h.qH _ _ _
  ·exact h
 split
 ·split
  ·rename_i p hp;exact h.setSl (h.sg p (cD hp))
  ·exact h
 ·exact h
theorem Wf.creates{m:dv}{k:Nat}(h:Wf m k)(cls:Int)(r:jo):Wf (cx m cls r).2 (k+1):=by
 have b:=h.mono (Nat.le_succ k);unfold cx;split
 ·exact b
 split
 ·split
  ·rename_i p hp;split
   ·exact b
   split
   ·have d:=h.sg p (cD hp);refine⟨h.w1,h.w2,by simpa using h.sl,mem_set h.sg (later_ok d.1),h.hd,by have:=h.rl;simp;omega,λx hx=>?_⟩;rcases List.mem_append.1 hx with hx|hx
    ·exact b.rg x hx
    ·rw[dh.1 hx];have:=h.w1;exact⟨cX _,rfl,λL e=>by simp at e,cX _,λa f=>by simp at f,dj _,by show(0:Int)<=m.c.2.2.1;omega⟩
   ·exact b
  ·exact b
 ·exact b
theorem Wf.gives{m:dv}{k:Nat}(h:Wf m k){n:Int}(d:1<=n)(e:n<=m.c.2.2.1)(a:eF)(r:jo):Wf (gB m n a r).2 (k+1):=by
 have b:=h.mono (Nat.le_succ k);have w1:=h.w1;have w2:=h.w2;unfold gB;split
 ·exact b
 ·split
  ·exact b
  ·rename_i i _ x f;have g:=h.rg x (cD f);simp only;split
   ·exact b
   split
   ·exact b
   split
   ·refine⟨h.w1,h.w2,h.sl,h.sg,h.hd,by have:=h.rl;simp;omega,mem_set b.rg ?_⟩;exact g.grow dy d e (round_ge d dy).1 a _
   ·exact b
theorem may_k{m:dv}{w:Int}{o:ez}(h:jQ m w o=true):1<=o.1/\o.1<=12:=by
 simp only[jQ,jz,de,decide_eq_true_eq]at h;exact⟨h.2.2.1.1,h.2.2.1.2⟩
theorem may_hd{m:dv}{w:Int}{o:ez}(h:jQ m w o=true):∃d,m.hands[w.toNat]? =some d:=⟨_,bZ (by have:=may_n h;omega)⟩
theorem must_open{m:dv}{w:Int}{o:ez}{h:eF}(b:jQ m w o=true){d:nj}(c:m.hands[w.toNat]? =some d)(a:(dI m w o h).2=false):cf m d o h=0/\(o.1=1\/o.1=2):=by
 unfold dI at a;rw[bY (by rw[b];simp),c]at a;simp only at a;split at a
 ·cases a
 ·rename_i f;split at a
  ·rename_i e;exact⟨dy,e⟩
  ·cases a
theorem must_fine{m:dv}{w:Int}{o:ez}{h:eF}(b:jQ m w o=true){d:nj}(c:m.hands[w.toNat]? =some d)(a:(dI m w o h).1.1=0):cf m d o h=0:=by
 unfold dI at a;rw[bY (by rw[b];simp),c]at a;simp only at a;split at a
 ·exact a
 ·omega
theorem pW{m:dv}{d:nj}{o:ez}{h:eF}(g:cf m d o h=0)(b:6<=o.1)(c:o.1<=9):eH m h 2=true/\o.2.2.2.1<h.2.2.2.2:=by
 obtain⟨f,a⟩:=jM g;have e:gH o.1=2:=by rw[gH,bY dy,bX ⟨b,c⟩]
 rw[e]at f;rw[dZ,bY dy,bY dy,bY dy,bY dy,bX ⟨b,c⟩]at a;refine⟨f.resolve_left dy,?_⟩;split at a
 ·omega
 ·split at a
  ·omega
  ·omega
theorem pX{m:dv}{d:nj}{o:ez}{h:eF}(l:cf m d o h=0)(f:o.1=2\/o.1=10\/o.1=12):∃i r,ek m.rgs (dW h)=some i/\m.rgs[i]? =some r/\r.nm=dW h/\fO m (dW h)=true:=by
 obtain⟨g,a⟩:=jM l;have e:gH o.1=1:=by rw[gH,bX f]
 rw[e]at g;have n:fO m (dW h)=true:=by
  have:eJ m h=0:=by
   unfold dZ at a;rcases f with k|k|k
   ·rw[bX k]at a;split at a
    ·omega
    ·exact a
   ·rw[bY dy,bY dy,bY dy,bY dy,bY dy,bX dy]at a;exact a
   ·rw[bY dy,bY dy,bY dy,bY dy,bY dy,bX dy]at a;exact a
  unfold eJ at this;split at this
  ·assumption
  ·omega
 have b:=g.resolve_left dy;unfold eH at b;split at b
 ·cases b
 ·rename_i i j;obtain⟨r,c,p⟩:=ox j;exact⟨i,r,j,c,p,n⟩
theorem Wf.lY{m:dv}{k:Nat}(h:Wf m k)(w:Int)(o:ez)(a:eF)(r:jo):Wf (lY m w o a r).2 (k+1):=by
 have b:=h.mono (Nat.le_succ k);unfold Go.Proofs.YtnpflajdbchghaaGreat.lY;cases c:jQ m w o with
 |false=>simp only[if_true];exact b
 |true=>
  rw[bY (by simp)];obtain⟨d,e⟩:=may_hd c;split
  ·split
   ·rename_i g;simp only;split
    ·rename_i i;exact(h.does e (must_fine c e (by rw[<- g];exact i))).mono (Nat.le_succ k)
    ·exact b
   ·exact b
  ·rename_i j;have f:=must_open c e (by simpa using j);split
   ·exact h.creates _ _
   ·have:=refuses_n f.1 dy;exact h.gives this.1 this.2.1 a r
theorem bu{w a:World}(c:ad [] w a){b o:Nat}{v:Value}(h:ao (hp w b) o=some v):ao (hp a b) o=some v:=by
 have:hp a b=hp w b:=c.block b (by
  rcases cZ b w.heap.size with h1|h1
  ·exact h1
  ·have d:hp w b=none:=by simp[hp];omega
   rw[d]at h;cases h) (by simp)
 rw[this];exact h
theorem jP.word{w:World}{g:Nat}{m:dv}{F:Fp}(I:jP w g m F){i:Nat}{r:eO}(V:m.rgs[i]? =some r){k:Nat}{L:List Int}(W:r.words[k]? =some L){j:Nat}{x:Int}(X:L[j]? =some x):
  ∃b c B C a D,ao (hp w g) (0+8)=some (.slice (some ⟨b,0,none⟩) m.rgs.length c)/\ao (hp w b) (i*7+5)=some (.slice (some ⟨B,0,none⟩) r.words.length C)/\ao (hp w B) k=some (.slice (some ⟨a,0,none⟩) L.length D)/\ao (hp w a) j=some (bT x)/\
   ∀y,mX (hp w a) (j+1)=true/\∃R,jP (put w a ((dG (hp w a)).setIfInBounds j (bT y)) (dH (hp w a))) g {m with rgs:=m.rgs.set i {r with words:=r.words.set k (L.set j y)}} R/\aO F R w (put w a ((dG (hp w a)).setIfInBounds j (bT y)) (dH (hp w a))):=by
 obtain⟨b,c,v,Fk,Y,Z,S,a1,_,E,G,q,_⟩:=I.rgCell V (k:=5) (P:=eG r.words) dy rfl;have H:(r.words.map jA)[k]? =some (jA L):=by rw[cM,W];rfl
 obtain⟨B,C,v2,a2,J,_,_,_,s,K,n,_⟩:=aL.cell G (λP G=>by obtain⟨l,_,rfl⟩:=List.mem_map.1 G;exact ga l) H;have M:((fE L).map hN)[j]? =some (hN (bT x)):=by rw[fE,List.map_map,cM,X];rfl
 obtain⟨a,D,v3,a3,O,_,_,_,t,u,_,Q⟩:=aL.cell K (fZ (sr L)) M;refine⟨b,c,B,C,a,D,Y,by rw[<- J];exact E,by rw[<- O];exact s,by rw[t,u.1],λy=>?_⟩;obtain⟨ok,T,f,z⟩:=Q w ck (hN (bT y)) (bT y) (aO.none u.2 w) (bH _ _) ⟨rfl,λ_ h=>h⟩;have A:((fE L).map hN).set j (hN (bT y))=(fE (L.set j y)).map hN:=by simp[fE,List.map_set]
 rw[A]at f;have o:jA (L.set j y) (put w a ((dG (hp w a)).setIfInBounds j (bT y)) (dH (hp w a))) T v2:=by rw[jA,cE];exact f
 obtain⟨U,d,p⟩:=n _ T (jA (L.set j y)) z o;rw[<- List.map_set]at d;have e:eG (r.words.set k (L.set j y)) (put w a ((dG (hp w a)).setIfInBounds j (bT y)) (dH (hp w a))) U v:=by rw[eG,cE];exact d
 obtain⟨F3,h1,h2⟩:=q _ U (eG (r.words.set k (L.set j y))) {r with words:=r.words.set k (L.set j y)} p e rfl;exact⟨ok,F3,h1,h2⟩
structure ObjAt(m:dv)(h:eF)(n:Int)(i:Nat)(r:eO)(k:Nat)(L:List Int)(j:Nat):Prop where
 fi:ek m.rgs (dW h)=some i
 ri:m.rgs[i]? =some r
 ix:nH r.chunks h.2.2.1=k
 wk:r.words[k]? =some L
 wl:(L.length:Int)=m.c.2.2.1
 jn:h.2.2.2.1+n=j
 jl:j<L.length
theorem obj_at{m:dv}{K:Nat}(W:Wf m K){h:eF}{n:Int}(a:eH m h 2=true)(l:0<=n)(o:n<h.2.2.2.2):∃i r k L j,ObjAt m h n i r k L j:=by
 unfold eH at a;split at a
 ·cases a
 ·rename_i i d;rw[bY dy]at a;obtain⟨r,b,_⟩:=ox d;simp only[b,de,decide_eq_true_eq]at a;have R:=W.rg r (cD b);obtain⟨f,p,q,s⟩:=R.ob h a.2;obtain⟨k,k1,k2⟩:=ixOf_at f;have c:=(ce.1 k2).1;obtain⟨L,e⟩:∃L,r.words[k]? =some L:=⟨_,bZ (by rw[R.wl];exact c)⟩
  have g:=R.ww L (cD e);exact⟨i,r,k,L,(h.2.2.2.1+n).toNat,d,b,k1,e,g,dy,dy⟩
theorem ObjAt.val{m:dv}{h:eF}{n:Int}{i:Nat}{r:eO}{k:Nat}{L:List Int}{j:Nat}(O:ObjAt m h n i r k L j):L[j]? =some (gX m h n):=by
 have e:rgOf m (dW h)=some r:=by rw[rgOf,O.fi];exact O.ri
 have a:qG r h.2.2.1=L:=by rw[qG,O.ix,cq,cu,O.wk];rfl
 rw[gX,e];simp only;rw[a,O.jn,cq,cu,bZ O.jl];rfl
theorem ObjAt.put{m:dv}{h:eF}{n:Int}{i:Nat}{r:eO}{k:Nat}{L:List Int}{j:Nat}(O:ObjAt m h n i r k L j)(y:Int):dX m h n y={m with rgs:=m.rgs.set i {r with words:=r.words.set k (L.set j y)}}:=by
 have a:qG r h.2.2.1=L:=by rw[qG,O.ix,cq,cu,O.wk];rfl
 simp only[dX,O.fi,O.ri,setW,a,O.ix,O.jn,cq]
structure WordAt(w:World)(g:Nat)(m:dv)(F:Fp)(h:eF)(n:Int)(g2 j:Nat):Prop where
 ld:ao (hp w g2) j=some (bT (gX m h n))
 ok:mX (hp w g2) (j+1)=true
 st:∀y,∃F',jP (put w g2 ((dG (hp w g2)).setIfInBounds j (bT y)) (dH (hp w g2))) g (dX m h n y) F'/\aO F F' w (put w g2 ((dG (hp w g2)).setIfInBounds j (bT y)) (dH (hp w g2)))
theorem c_mWord{w:World}{g:Nat}{m:dv}{F:Fp}{K:Nat}(I:jP w g m F)(W:Wf m K)(Y:K<=1000000){h:eF}{n:Int}(hk:eH m h 2=true)(n0:0<=n)(n1:n<h.2.2.2.2):
  aa prog 39 [bU g,.agg (bB h).toArray,bS n] w λv l=>∃e j,v= .pointer (some ⟨e,j,none⟩)/\ad [] w l/\∀a,ad [] w a->WordAt a g m F h n e j:=by
 apply F39_ok;obtain⟨i,r,k,L,j,O⟩:=obj_at W hk n0 n1;obtain⟨b,c,bw,cw,e,c2,p1,p2,p3,p4,_⟩:=I.word O.ri O.wk O.val;have H:∀a,ad [] w a->WordAt a g m F h n e j:=λa D=>by
  obtain⟨b',c',a1,a2,f,a3,Z,q2,q3,q4,q5⟩:=(I.an D).word O.ri O.wk O.val;rw[bu D p1]at Z;cases Z;rw[bu D p2]at q2;cases q2;rw[bu D p3]at q3;cases q3;exact⟨q4,(q5 0).1,λy=>by rw[O.put];exact(q5 y).2⟩
 obtain⟨s,rv,hh,M⟩:=I.rd;have o:=M.rl;rw[p1]at o;cases o;have w1:=W.w1;have w2:=W.w2;have d:hp (w.alloc (.cells (bB h).toArray 32)) w.heap.size=some (.cells (bB h).toArray 32):=by rw[af,bX rfl]
 have J:ad [] w (w.alloc (.cells (bB h).toArray 32)):=(ad.refl _ _).alloc _;simp only[F39,ak,au];generalize w.alloc (.cells (bB h).toArray 32)=w0 at*;generalize w.heap.size=P at*;have Q:∀l,hp l P=some (.cells (bB h).toArray 32)->fR prog 32 (bU P) l=some (.agg (bB h).toArray):=λl hw=>aR (t:=32) (c:=(bB h).toArray) qX (show(Tryz.prog.info? 32).map (·.size)=some (bB h).toArray.size from ma) hw;simp only[Q _ d,ac];refine(kT h w0).mono ?_;rintro _ w1 ⟨rfl,k1⟩;have q:=J.trans k1;refine(th (M.an q) (h.1,h.2.1) (cQ W.rl Y)).mono ?_;rintro v w2 ⟨k2,hv⟩;have S:=q.trans k2;have hf:ek m.rgs (h.1,h.2.1)=some i:=O.fi;rw[hf]at hv;rcases hv with⟨hv,_⟩|⟨i',rg,b',c',T,u,hr,rfl⟩
 ·cases hv
 cases T;cases hr;have E:ad [] w w2.drew:=S.drew;have b2:=(k1.trans k2).at d (by simp);have e2:(bB h).toArray[0+2]? =some (bS h.2.2.1):=rfl;have e3:(bB h).toArray[0+3]? =some (bS h.2.2.2.1):=rfl;rw[O.ri]at u;cases u;obtain⟨G,hG⟩:=(M.an E).rT;obtain⟨a4,a5,hx,cv,wv,ov,R⟩:=rg_at hG O.ri;cases hx;have x:=R.c5;rw[bu E p2]at x;cases x;obtain⟨A,cc,U,hR⟩:=lI R.cT;have R4:=R.c4;rw[U]at R4;have R5:=R.c5;have a6:=(ce.1 O.wk).1;have z:=ia_97 (b:=bw) (p:=0) (n:=r.words.length) (c:=cw) (j:= .i64) (i:=(k:Int)) dy dy;rw[cq,cV,dm]at z;have a7:=O.jl;have B:=ia_139 (b:=e) (p:=0) (n:=L.length) (c:=c2) (j:= .i64) (i:=(j:Int)) dy dy;rw[cq,cV,dm]at B;have V:=bu E p3;have a8:=O.wl;have X:r.chunks.length<=1000000:=cQ (W.rg r (cD O.ri)).cl Y;have fin:∃f j',Value.pointer (some ⟨e,j,none⟩)= .pointer (some ⟨f,j',none⟩)/\ad [] w w2.drew/\∀a,ad [] w a->WordAt a g m F h n f j':=⟨e,j,rfl,E,H⟩
 have C:hp w2.drew P=some (.cells (bB h).toArray 32):=b2;simp only[ac,ae,qy,nD,fy,ib,od,aH,ag,aN,R4,R5,C,e2,e3,aj,O.jn,ap (n:=(j:Int)) dy dy];have ix:=c_iIndex (c:=cc) hR X h.2.2.1;rw[O.ix]at ix;repeat' (with_reducible apply And.intro)
 all_goals
  refine ix.step ?_;simp only[ac,z,jc,aN,R5,C,e3,aj,O.jn,ap (n:=(j:Int)) dy dy,V,B];exact fin
section
variable{W w:World}{g g6 g7 g8 g10 k:Nat}{m:dv}{F:Fp}{K:Nat}{o:ez}{h:eF}{d:nj}
theorem rsC_one(r:jo):(fI r).toArray.toList.all (·.oneCell')=true:=rfl
theorem eW{r:jo}{b:Nat}{e:TypeId}(hb:hp w b=some (.cells (fI r).toArray e)):fR prog 35 (bU b) w=some (.agg (fI r).toArray):=aR (t:=35) (c:=(fI r).toArray) ag_35 (show(Tryz.prog.info? 35).map (·.size)=some (fI r).toArray.size from sz_35) hb
theorem hI{r:jo}{b:Nat}{c:Array Value}{e:TypeId}(hb:hp w b=some (.cells c e))(a:c.size=8){L:World->Prop}:dE prog (Instr.storeAt 35 (bU b) (.agg (fI r).toArray)) w L=L (put w b (fI r).toArray e):=by
 rw[st_35 rfl (rsC_one r) (by rw[hb,aT];exact cj dy) (by rw[hb];exact a),hb];rfl
theorem l_must2(r:jo)(d:ad [] W w){b:Array Value}(c:hp w g8=some (.cells b 35))(e:b.size=8)(a:hp w g10=some (.cells (fI r).toArray 35))(f:W.heap.size<=g8):
  P17_2 (bU g8) (bU g10) w λv g=>v= .tuple #[.agg (fI r).toArray,.bool true]/\ad [] W g:=by
 apply L17_2_ok;simp only[L17_2,eW a,ac];rw[hI c e,eW (aq (az c) _ _),ac];exact⟨rfl,d.put (.inr f) _ _⟩
theorem l_must1(L:ad [] W w)(I:jP w g m F)(O:Wf m K)(P:K<=1000000)(J:hp w g6=some (.cells (dC o).toArray 37))(Q:hp w g7=some (.cells (bB h).toArray 32)){c8:Array Value}(S:hp w g8=some (.cells c8 35))(T:c8.size=8)(l:hp w g10=some (.cells (fI lV).toArray 35))
  (U:W.heap.size<=g8) (V:W.heap.size<=g10) (D:g8≠g10) (X:cf m d o h=0) (n0:0<=o.2.2.2.1) {t:Bool} (ht:t=decide (o.1=6\/o.1=8)):
  P17_1 (bU g) (bU g6) (bU g7) (bU g8) (bU g10) (bS o.1) (.bool t) w λv n=>v= .tuple #[.agg (fI (eV m o h)).toArray,.bool true]/\ad [] W n:=by
 apply L17_1_ok;have u:∀n,hp n g7=some (.cells (bB h).toArray 32)->fR prog 32 (bU g7) n=some (.agg (bB h).toArray):=λn E=>aR (t:=32) (c:=(bB h).toArray) qX (show(Tryz.prog.info? 32).map (·.size)=some (bB h).toArray.size from ma) E;have Y:hp w.drew g6=some (.cells (dC o).toArray 37):=J;have Z:hp w.drew g7=some (.cells (bB h).toArray 32):=Q;have cd:ad [] w w.drew:=(ad.refl _ _).drew;have fin:∀(r:jo) (k:Nat) (v:Value) (b:World),ad [] w b->(fI lV).toArray.setIfInBounds k v=(fI r).toArray->eV m o h=r->
   P17_2 (bU g8) (bU g10) (put b g10 ((dG (hp b g10)).setIfInBounds k v) (dH (hp b g10))) λv n=>v= .tuple #[.agg (fI (eV m o h)).toArray,.bool true]/\ad [] W n:=by
  intro r k v b a he hm;have q:=a.at l (by simp);rw[q,ay,ar,he,hm];exact l_must2 r ((L.trans a).put (.inr V) _ _) (by rw[aV D];exact a.at S (by simp)) T (aq (az q) _ _) U
 have x:∀(b:World) (k:Nat),ad [] w b->k<=8->mX (hp b g10) k=true:=λb k a hk=>by rw[a.at l (by simp),aT];exact cj hk
 by_cases f:o.1=6\/o.1=8
 ·have y:t=true:=by rw[ht];exact cj f
  subst y;obtain⟨t1,t2⟩:=pW X dy dy;simp only[L17_1,zS,u _ Q,bm,ag,J,mm];refine(c_mWord I O P t1 n0 t2).mono ?_;rintro _ b ⟨g2,j,rfl,a,E⟩;have A:=E b a;simp only[zS,bx,A.ld,fa_35_3];rw[og rfl rfl (x _ _ a dy)];exact fin (0,kY,0,gX m h o.2.2.2.1) _ _ _ a rfl (by rw[eV,bX f])
 have y:t=false:=by rw[ht];exact cr f
 subst y;by_cases z:o.1=9
 ·have q9:(o.1==9)=true:=by rw[z];rfl
  obtain⟨t1,t2⟩:=pW X dy dy;have three:∀b,ad [] w b->P17_3 (bU g8) (bU g10) (.bool (gX m h o.2.2.2.1==o.2.2.2.2.1)) b λv n=>v= .tuple #[.agg (fI (eV m o h)).toArray,.bool true]/\ad [] W n:=by
   intro b a;apply L17_3_ok;by_cases hv:gX m h o.2.2.2.1=o.2.2.2.2.1
   ·have e:(gX m h o.2.2.2.1==o.2.2.2.2.1)=true:=by rw[hv];exact beq_self_eq_true _
    simp only[L17_3,e,aY,fa_35_2,ac];rw[hC rfl rfl (x _ _ a dy)];exact fin (0,kY,1,0) _ _ _ a rfl (by rw[eV,bY f,bX z,bX hv])
   ·simp only[L17_3,bn hv,aQ];have e:eV m o h=lV:=by rw[eV,bY f,bX z,bY hv];rfl
    rw[e];exact l_must2 lV (L.trans a) (a.at S (by simp)) T (a.at l (by simp)) U
  simp only[L17_1,zS,q9,u _ Z,bm,fB,ag,bx,Y,J,mm,pR];have cw:=c_mWord (I.an cd) O P t1 n0 t2;repeat' (with_reducible apply And.intro)
  all_goals
   refine cw.mono ?_;rintro _ b ⟨g2,j,rfl,a,E⟩;have A:=E b a;have a1:=(cd.trans a).at J (by simp);simp only[zS,bx,A.ld,a1,pR];exact three b (cd.trans a)
 by_cases p:o.1=12
 ·have a2:(o.1==12)=true:=by rw[p];rfl
  obtain⟨i,r,hf,B,_,_⟩:=pX X dy;obtain⟨s,rv,hh,M⟩:=I.rd;simp only[L17_1,zS,bn z,a2,u _ Q];refine(kT h w).mono ?_;rintro _ w1 ⟨rfl,c1⟩;refine(th (M.an c1) (h.1,h.2.1) (cQ O.rl P)).mono ?_;rintro v w2 ⟨c2,hv⟩;have C:=c1.trans c2;have a3:ek m.rgs (h.1,h.2.1)=some i:=hf;rw[a3]at hv;rcases hv with⟨hv,_⟩|⟨i',rg,b',c',a4,H,a5,rfl⟩
  ·cases hv
  cases a4;rw[B]at H;cases H;obtain⟨G,hG⟩:=(M.an C).rT;obtain⟨a6,a7,hx,cv,wv,ov,R⟩:=rg_at hG B;rw[a5]at hx;cases hx;simp only[zS,fa_99_2,fa_35_2,ag,R.c3];rw[hC rfl rfl (x _ _ C dy)];exact fin (0,kY,r.off,0) _ _ _ C rfl (by
   rw[eV,bY f,bY z,bX p,rgOf,hf];simp only[Option.bind_some,B])
 ·simp only[L17_1,zS,bn z,bn p];have e:eV m o h=lV:=by rw[eV,bY f,bY z,bY p]
  rw[e];exact l_must2 lV L S T l U
theorem c_mMust{w:World}{g:Nat}{m:dv}{F:Fp}{K:Nat}(I:jP w g m F)(Y:Wf m K)(Z:K<=1000000)(n:Int)(o:ez)(h:eF):
  aa prog 17 [bU g,bS n,.agg (dC o).toArray,.agg (bB h).toArray] w λv a=>v= .tuple #[.agg (fI (dI m n o h).1).toArray,.bool (dI m n o h).2]/\ad [] w a:=by
 apply F17_ok;obtain⟨s,rv,hh,M⟩:=I.rd;simp only[F17,ak,au,sn,ah];generalize b:((w.alloc (.cells (dC o).toArray 37)).alloc _).alloc _=w1;have c1:ad [] w w1:=by rw[<- b];exact(((ad.refl _ _).alloc _).alloc _).alloc _
 have b6:hp w1 w.heap.size=some (.cells (dC o).toArray 37):=by rw[<- b,af,ah,ah,bY dy,af,ah,bY dy,af,bX rfl]
 have b7:hp w1 (w.heap.size+1)=some (.cells (bB h).toArray 32):=by rw[<- b,af,ah,ah,bY dy,af,ah,bX rfl]
 have b8:hp w1 (w.heap.size+1+1)=some (.cells (fI lV).toArray 35):=by rw[<- b,af,ah,ah,bX rfl];rfl
 clear b;have B:∀a,hp a w.heap.size=some (.cells (dC o).toArray 37)->fR prog 37 (bU w.heap.size) a=some (.agg (dC o).toArray):=λa b=>aR (t:=37) (c:=(dC o).toArray) tJ (show(Tryz.prog.info? 37).map (·.size)=some (dC o).toArray.size from nZ) b;have R:∀a,hp a (w.heap.size+1)=some (.cells (bB h).toArray 32)->fR prog 32 (.pointer (some ⟨w.heap.size+1,0,none⟩)) a=some (.agg (bB h).toArray):=λa b=>aR (t:=32) (c:=(bB h).toArray) qX (show(Tryz.prog.info? 32).map (·.size)=some (bB h).toArray.size from ma) b;simp only[ac,B _ b6];refine(c_mMay (M.an c1) n o).mono ?_;rintro _ w2 ⟨rfl,H⟩;have p:=c1.trans H;have d6:=H.at b6 (by simp);have d7:=H.at b7 (by simp);have S:=H.at b8 (by simp);have l:∀(L:Array Value->Prop),L (fI lV).toArray->L #[(Go.Value.int Go.IntKind.i64 0),(Go.Value.int Go.IntKind.i64 0),(Go.Value.int Go.IntKind.i64 0),(Go.Value.int Go.IntKind.i64 0),(Go.Value.int Go.IntKind.i64 0),(Go.Value.int Go.IntKind.i64 0),(Go.Value.int Go.IntKind.i64 0),(Go.Value.int Go.IntKind.u64 0)]:=λL h=>h;cases C:jQ m n o with
 |false=>
  simp only[zS,bd_35_];refine l (λz=>dE prog (Instr.storeAt 35 _ (.agg z)) _ _) ?_;rw[hI S rfl,eW (aq (az S) _ _),ac];exact⟨by rw[dI,bX C],p.put (.inr dy) _ _⟩
 |true=>
  obtain⟨n0,n1,n2⟩:=may_n C;obtain⟨d,T⟩:=may_hd C;simp only[zS,B _ d6,R _ d7];refine(c_mRefuses (M.an p) (Y.small Z) n0 T o h).mono ?_;rintro _ y ⟨rfl,J⟩;have D:=p.trans J;have f6:=J.at d6 (by simp);have f7:=J.at d7 (by simp);have f8:=J.at S (by simp);have s3:=D.size;simp only[zS,bd_35_0];have r:∀(L:Array Value->Prop),L (fI (bL (cf m d o h))).toArray->L #[(bS (cf m d o h)),(Go.Value.int Go.IntKind.i64 0),(Go.Value.int Go.IntKind.i64 0),(Go.Value.int Go.IntKind.i64 0),(Go.Value.int Go.IntKind.i64 0),(Go.Value.int Go.IntKind.i64 0),(Go.Value.int Go.IntKind.i64 0),(Go.Value.int Go.IntKind.u64 0)]:=λL h=>h;refine r (λz=>dE prog (Instr.storeAt 35 _ (.agg z)) _ _) ?_;rw[hI (c:=(fI lV).toArray) (e:=35) (by rw[af,bX rfl];rfl) rfl];generalize u:put (y.alloc _) y.heap.size _ _=O;have P:ad [] y O:=by rw[<- u];exact((ad.refl _ _).alloc _).put (.inr (cy _)) _ _
  have i:hp O y.heap.size=some (.cells (fI (bL (cf m d o h))).toArray 35):=by rw[<- u];exact aq (by simp) _ _
  clear u;have j:=D.trans P;have a6:=P.at f6 (by simp);have a7:=P.at f7 (by simp);have E:=P.at f8 (by simp);have r0:(fI (bL (cf m d o h))).toArray[0+0]? =some (bS (cf m d o h)):=rfl;have a1:=az f8;by_cases A:cf m d o h=0
  ·have U:(cf m d o h !=0)=false:=by rw[A];rfl
   have V:dI m n o h=if o.1=1\/o.1=2 then(lV,false)else(eV m o h,true):=by
    rw[dI,bY (by rw[C];simp),T];simp only[A,ne_eq,not_true_eq_false,if_false]
   have G:hp O y.heap.size=some (.cells (fI lV).toArray 35):=by rw[i,A];rfl
   simp only[zS,mz,jy,i,r0,U,am,ag,a6,aJ];have zero:∀t:Bool,t=decide (o.1=1\/o.1=2)->P17_0 (bU g) (bU w.heap.size) (.pointer (some ⟨w.heap.size+1,0,none⟩)) (.pointer (some ⟨w.heap.size+1+1,0,none⟩)) (bU y.heap.size) (bS o.1) (.bool t) O
     λv a=>v= .tuple #[.agg (fI (dI m n o h).1).toArray,.bool (dI m n o h).2]/\ad [] w a:=by
    intro t Q;apply L17_0_ok;rw[V];by_cases k:o.1=1\/o.1=2
    ·have x:t=true:=by rw[Q];exact cj k
     subst x;rw[bX k];simp only[L17_0,zS,bd_35_];refine l (λz=>dE prog (Instr.storeAt 35 _ (.agg z)) _ _) ?_;rw[hI E rfl,eW (aq (az E) _ _),ac];exact⟨rfl,j.put (.inr dy) _ _⟩
    ·have x:t=false:=by rw[Q];exact cr k
     subst x;rw[bY k];have one:∀t:Bool,t=decide (o.1=6\/o.1=8)->_:=λt Q=>l_must1 (W:=w) j (I.an j) Y Z a6 a7 E rfl G dy dy dy A n2 Q;by_cases X:o.1=6
     ·have q:(o.1==6)=true:=by rw[X];rfl
      have f:=one true (by rw[X];rfl);simp only[L17_0,zS,q];exact f
     ·have f:=one (o.1==8) (by
       by_cases k8:o.1=8
       ·rw[k8];rfl
       ·rw[bn k8];exact(cr dy).symm)
      simp only[L17_0,zS,bn X];exact f
   by_cases k1:o.1=1
   ·have q:(o.1==1)=true:=by rw[k1];rfl
    have f:=zero true (by rw[k1];rfl);simp only[zS,q];exact f
   ·have f:=zero (o.1==2) (by
     by_cases k2:o.1=2
     ·rw[k2];rfl
     ·rw[bn k2];exact(cr dy).symm)
    simp only[zS,bn k1];exact f
  ·have U:(cf m d o h !=0)=true:=bne_iff_ne.2 A;have V:dI m n o h=(bL (cf m d o h),true):=by
    rw[dI,bY (by rw[C];simp),T];simp only;rw[bX A]
   simp only[zS,mz,jy,i,r0,U];rw[eW i,ac,hI E rfl,eW (aq (az E) _ _),ac,V];exact⟨rfl,j.put (.inr dy) _ _⟩
end
theorem Ev.aO.pre{F d:Fp}{a b c:World}(k:ad [] a b)(u:aO F d b c):aO F d a c:=(aO.bV k).trans u
theorem Ev.aO.post{F d:Fp}{a b c:World}(u:aO F d a b)(k:ad [] b c):aO F d a c:=u.trans (aO.bV k)
theorem mq{e:TypeId}{z n m:Nat}{us vs:List Value}{w b:World}{F:Fp}{x x':Value}(h:aL e z n (us.map hN) w F x)(i:b.ownsRow 0 e z x' m (us++vs))(a:w.grownBy b x.ownBlock)(c:iB w x x'):
  ∃f,aL e z m ((us++vs).map hN) b f x'/\aO F f w b:=by
 obtain⟨xs,l,_,_,_,g⟩:=h;refine⟨_,gW i,⟨a.os,a.tape,a.output,a.size,λk d j=>a.block k d λe=>j ((g k).2 (.inl e.symm))⟩,λk d=>?_⟩;rcases c k d with h5|h5
 ·exact .inl ((g k).2 (.inl h5))
 ·exact .inr h5
theorem slots_at{m:dv}{n:iD}(h:fO m n=true):0<=n.1/\n.1<m.slots.length/\m.slots[n.1.toNat]? =some (1,n.2):=by
 simp only[fO,de,decide_eq_true_eq]at h;exact⟨h.1.1,h.1.2,h.2⟩
section
variable{W w:World}{g g6 g7 g9 b k:Nat}{m:dv}{F:Fp}{K:Nat}{o:ez}{h:eF}{d:nj}{n:Int}
theorem jP.depthSet(I:jP w g m F)(j:m.hands[n.toNat]? =some d)(x:Int):
  ∃b c,ao (hp w g) (0+9)=some (.slice (some ⟨b,0,none⟩) m.hands.length c)/\b≠g/\ao (hp w b) (n.toNat*2+0)=some (bS d.depth)/\mX (hp w b) (n.toNat*2+0+1)=true/\
   ∃i,jP (put w b ((dG (hp w b)).setIfInBounds (n.toNat*2+0) (bS x)) (dH (hp w b))) g (gI m n {d with depth:=x}) i/\aO F i w (put w b ((dG (hp w b)).setIfInBounds (n.toNat*2+0) (bS x)) (dH (hp w b))):=by
 obtain⟨b,c,v,r,l,_,_,_,a,e,hv,f⟩:=I.hdCell j (k:=0) (P:=iT d.depth) dy rfl;obtain⟨ok,o,p,q⟩:=f w ck (iT x) (bS x) {d with depth:=x} (aO.none hv.2 w) (bH _ _) ⟨rfl,λ_ h=>h⟩ rfl;exact⟨b,c,l,a,by rw[e,hv.1],ok,o,p,q⟩
theorem l_does0(E:ad [] W w)(I:jP w g m F)(Wm:Wf m K)(hK:K<=1000000)(B:hp w g6=some (.cells (dC o).toArray 37))(h7:hp w g7=some (.cells (bB h).toArray 32))(h9:hp w g9=some (.cells (gD (dW h)).toArray 96))
  (hd:m.hands[n.toNat]? =some d) (hr:cf m d o h=0) (n0:0<=o.2.2.2.1) {c:Nat} (hb:ao (hp w g) (0+9)=some (.slice (some ⟨b,0,none⟩) m.hands.length c)):
  P42_0 (bU g) (bU g6) (bU g7) (.pointer (some ⟨b,n.toNat*2,none⟩)) (bU g9) w λv Q=>v= .tuple #[]/\∃F',jP Q g (fF m n o h) F'/\aO F F' W Q:=by
 apply L42_0_ok;have Z:fF m n o h=if o.1=3 then gI m n {d with depth:=d.depth+1}
  else if o.1=4 then gI m n (if d.depth-1=0 then{depth:=0,holds:= []}else{d with depth:=d.depth-1})
  else if o.1=5 then(if eN d h then m else gI m n {d with holds:=d.holds++ [dW h]})
  else if o.1=7 then dX m h o.2.2.2.1 o.2.2.2.2.1
  else if o.1=8 then dX m h o.2.2.2.1 (IntKind.u64.wrap (gX m h o.2.2.2.1+o.2.2.2.2.1))
  else if o.1=9 then(if gX m h o.2.2.2.1=o.2.2.2.2.1 then dX m h o.2.2.2.1 o.2.2.2.2.2 else m)
  else if o.1=10 then(match m.slots[h.1.toNat]? with|some p=>{m with slots:=m.slots.set h.1.toNat (if m.loose then 0 else 2,p.2)}|none=>m)
  else m:=by rw[fF,hd]<;>rfl
 have hD:=Wm.hd d (cD hd);have e4:=(jM hr).2;have a3:∀Q,hp Q g7=some (.cells (bB h).toArray 32)->fR prog 32 (bU g7) Q=some (.agg (bB h).toArray):=λQ T=>aR (t:=32) (c:=(bB h).toArray) qX (show(Tryz.prog.info? 32).map (·.size)=some (bB h).toArray.size from ma) T;have a9:∀Q,hp Q g9=some (.cells (gD (dW h)).toArray 96)->fR prog 96 (bU g9) Q=some (.agg (gD (dW h)).toArray):=λQ T=>aR (t:=96) (c:=(gD (dW h)).toArray) ag_96 (show(Tryz.prog.info? 96).map (·.size)=some (gD (dW h)).toArray.size from sz_96) T;have R:ad [] w w.drew:=(ad.refl _ _).drew;have b4:hp w.drew g6=some (.cells (dC o).toArray 37):=B;have b5:hp w.drew g7=some (.cells (bB h).toArray 32):=h7;have c8:hp w.drew g9=some (.cells (gD (dW h)).toArray 96):=h9;by_cases a:o.1=3
 ·have q:(o.1==3)=true:=by rw[a];rfl
  obtain⟨b',c',u,b6,s,ok,G,f,C⟩:=I.depthSet hd (d.depth+1);rw[hb]at u;cases u;simp only[L42_0,zS,am,ag,B,aJ,q,jX,s,aj,ap (n:=d.depth+1) dy dy];rw[hC (o:=n.toNat*2+0) rfl rfl ok,Z,bX a];exact⟨by first|rfl|trivial,G,f,C.pre E⟩
 by_cases y:o.1=4
 ·have q:(o.1==4)=true:=by rw[y];rfl
  obtain⟨b',c',u,b6,s,ok,G,f,C⟩:=I.depthSet hd (d.depth-1);rw[hb]at u;cases u;simp only[L42_0,zS,am,ag,B,aJ,bn a,q,jX,s,aZ,ap (n:=d.depth-1) dy dy];rw[hC (o:=n.toNat*2+0) rfl rfl ok,Z,bY a,bX y];have c9:ao (hp (put w b ((dG (hp w b)).setIfInBounds (n.toNat*2+0) (bS (d.depth-1))) (dH (hp w b))) g) (0+9)=some (.slice (some ⟨b,0,none⟩) m.hands.length c):=by rw[aV (Ne.symm b6)];exact hb
  generalize put w b ((dG (hp w b)).setIfInBounds (n.toNat*2+0) (bS (d.depth-1))) (dH (hp w b))=w1 at*;have b7:(gI m n {d with depth:=d.depth-1}).hands[n.toNat]? =some {d with depth:=d.depth-1}:=by
   show(m.hands.set n.toNat _)[n.toNat]? =_;rw[cU,bX rfl,bX (ce.1 hd).1]
  have a4:(gI m n {d with depth:=d.depth-1}).hands.length=m.hands.length:=by simp[gI]
  obtain⟨b2,c2,v2,e5,H,_,_,_,_,e3,e6,b8⟩:=f.hdCell b7 (k:=1) (P:=kK d.holds) dy rfl;obtain⟨b3,J,b9,_,a1,_⟩:=f.depthSet b7 0;rw[a4,c9]at H b9;cases H;cases b9;by_cases hz:d.depth-1=0
  ·have e:(d.depth-1==0)=true:=by rw[hz];rfl
   simp only[zS,mL,a1,e];obtain⟨L,F2,h3,h4⟩:=b8 w1 ck (kK []) (.slice none 0 0) {depth:=0,holds:= []} ⟨aW.refl _ _,λk hk=>hk.elim⟩ (kL _) aL.nil (by
    rw[hz];rfl)
   rw[st_134 (o:=n.toNat*2+1) rfl rfl L,bX hz];have e2:gI m n {depth:=0,holds:= []}={gI m n {d with depth:=d.depth-1}with hands:=(gI m n {d with depth:=d.depth-1}).hands.set n.toNat {depth:=0,holds:= []}}:=by
    simp[gI,List.set_set]
   rw[e2];exact⟨by first|rfl|trivial,F2,h3,(C.trans h4).pre E⟩
  ·simp only[zS,a1,bn hz];rw[bY hz];exact⟨by first|rfl|trivial,G,f,C.pre E⟩
 by_cases D:o.1=5
 ·have q:(o.1==5)=true:=by rw[D];rfl
  obtain⟨b',c',v,Fk,u,_,_,_,_,s,hv,_⟩:=(I.an R).hdCell hd (k:=1) (P:=kK d.holds) dy rfl;rw[show ao (hp w.drew g) (0+9)=_ from hb]at u;cases u;obtain⟨A,ca,rfl,hR⟩:=names_sh ⟨_,hv⟩;simp only[L42_0,zS,am,ag,B,aJ,bn a,bn y,q,mL,ld_134,show ao (hp w b) (n.toNat*2+1)=_ from s,a9 _ c8];refine(c_nContains (c:=ca) hR dy (dW h)).mono ?_;rintro _ w1 ⟨rfl,c1⟩;have U:=R.trans c1;rw[Z,bY a,bY y,bX D];cases hh:eN d h with
  |true=>
   have a5:decide (dW h∈d.holds)=true:=hh;simp only[zS,a5,if_true];exact⟨by first|rfl|trivial,F,I.an U,(aO.bV (E.trans U))⟩
  |false=>
   have a5:decide (dW h∈d.holds)=false:=hh;have a6:ad [] w w1.drew:=U.drew;obtain⟨b',c',v,Fk,u,_,_,_,_,s,hv,d1⟩:=(I.an a6).hdCell hd (k:=1) (P:=kK d.holds) dy rfl;rw[bu a6 hb]at u;cases u;have d2:hp w1.drew g9=some (.cells (gD (dW h)).toArray 96):=U.at h9 (by simp);simp only[zS,a5,show ao (hp w1 b) (n.toNat*2+1)=_ from s,a9 _ d2,Bool.false_eq_true,if_false];obtain⟨O,_⟩:=fD hv;refine ps_134 (by simp) O dy (cX _) λx' w2 ho hg d3=>?_;rw[show d.holds.flatMap gD++ [Value.int .i64 (dW h).1,Value.int .i64 (dW h).2]=(d.holds++ [dW h]).flatMap gD by simp[gD]]at ho;have d4:aL 96 2 d.holds.length ((d.holds.flatMap gD).map hN) w1.drew Fk v:=hv;obtain⟨F2,d5,d6⟩:=mq (vs:=gD (dW h)) d4 (by simpa [gD]using ho) hg d3;have a2:kK (d.holds++ [dW h]) w2 F2 x':=by
    rw[kK,cJ];have e:(d.holds++ [dW h]).flatMap gD=d.holds.flatMap gD++gD (dW h):=by simp
    rw[e];exact d5
   obtain⟨L,F3,h3,h4⟩:=d1 w2 F2 (kK (d.holds++ [dW h])) x' {d with holds:=d.holds++ [dW h]} d6 (kL _) a2 rfl;have one:=(kL _).one a2;rw[st_134 (o:=n.toNat*2+1) one.1 one.2 L];exact⟨by first|rfl|trivial,F3,h3,h4.pre (E.trans a6)⟩
 by_cases S:o.1=7
 ·have q:(o.1==7)=true:=by rw[S];rfl
  obtain⟨t1,t2⟩:=pW hr dy dy;have cw:=c_mWord (I.an R) Wm hK t1 n0 t2;simp only[L42_0,zS,am,bm,fB,ag,bx,B,b4,aJ,mm,pR,bn a,bn y,bn D,q,a3 _ b5];rw[Z,bY a,bY y,bY D,bX S];repeat' (with_reducible apply And.intro)
  all_goals
   refine cw.mono ?_;rintro _ w3 ⟨g2,j,rfl,J,T⟩;have A:=T w3 J;have z:=(R.trans J).at B (by simp);simp only[zS,z,pR];rw[og rfl rfl A.ok];obtain⟨G,f,C⟩:=A.st o.2.2.2.2.1;exact⟨by first|rfl|trivial,G,f,C.pre (E.trans (R.trans J))⟩
 by_cases k8:o.1=8
 ·have q:(o.1==8)=true:=by rw[k8];rfl
  obtain⟨t1,t2⟩:=pW hr dy dy;have cw:=c_mWord (I.an R) Wm hK t1 n0 t2;simp only[L42_0,zS,am,bm,fB,ag,bx,B,b4,aJ,mm,pR,bn a,bn y,bn D,bn S,q,a3 _ b5];rw[Z,bY a,bY y,bY D,bY S,bX k8];repeat' (with_reducible apply And.intro)
  all_goals
   refine cw.mono ?_;rintro _ w3 ⟨g2,j,rfl,J,T⟩;have A:=T w3 J;have z:=(R.trans J).at B (by simp);simp only[zS,bx,z,pR,A.ld,aj];rw[og rfl rfl A.ok];obtain⟨G,f,C⟩:=A.st (IntKind.u64.wrap (gX m h o.2.2.2.1+o.2.2.2.2.1));exact⟨by first|rfl|trivial,G,f,C.pre (E.trans (R.trans J))⟩
 by_cases k9:o.1=9
 ·have q:(o.1==9)=true:=by rw[k9];rfl
  obtain⟨t1,t2⟩:=pW hr dy dy;simp only[L42_0,zS,am,bm,fB,ag,bx,B,aJ,mm,bn a,bn y,bn D,bn S,bn k8,q,a3 _ h7];rw[Z,bY a,bY y,bY D,bY S,bY k8,bX k9];refine(c_mWord I Wm hK t1 n0 t2).mono ?_;rintro _ w3 ⟨g2,j,rfl,J,T⟩;have V:ad [] w w3.drew:=J.drew;have A:=T w3.drew V;have z:=J.at B (by simp);by_cases hv:gX m h o.2.2.2.1=o.2.2.2.2.1
  ·have e:(gX m h o.2.2.2.1==o.2.2.2.2.1)=true:=by rw[hv];exact beq_self_eq_true _
   simp only[zS,bx,mB,z,pR,op_5,show ao (hp w3 g2) j=_ from A.ld,e];rw[og rfl rfl A.ok,bX hv];obtain⟨G,f,C⟩:=A.st o.2.2.2.2.2;exact⟨by first|rfl|trivial,G,f,C.pre (E.trans V)⟩
  ·simp only[zS,bx,z,pR,show ao (hp w3 g2) j=_ from A.ld,bn hv];rw[bY hv];exact⟨by first|rfl|trivial,F,I.an V,aO.bV (E.trans V)⟩
 by_cases X:o.1=10
 ·have q:(o.1==10)=true:=by rw[X];rfl
  obtain⟨i,r,hf,e7,e8,d7⟩:=pX hr dy;obtain⟨s0,s1,s2⟩:=slots_at d7;have a7:m.slots[h.1.toNat]? =some (1,h.2.1):=s2;have e9:0<=h.1:=s0;have f2:h.1<m.slots.length:=s1;obtain⟨b1,c1,u,ok,G,f,C⟩:=(I.an R).slotSet a7 (p':=(2,h.2.1)) (k:=0) (x:=2) dy rfl;have ia:=ia_86 (b:=b1) (p:=0) (n:=m.slots.length) (c:=c1) (j:= .i64) (i:=h.1) dy dy;rw[cV]at ia;have e0:(bB h).toArray[0+0]? =some (bS h.1):=rfl;simp only[L42_0,zS,am,ag,B,aJ,bn a,bn y,bn D,bn S,bn k8,bn k9,q,nC,ld_86,show ao (hp w g) (0+7)=_ from u,bG,h7,e0,ia,nS];rw[hC (o:=h.1.toNat*2+0) rfl rfl ok,Z,bY a,bY y,bY D,bY S,bY k8,bY k9,bX X,a7];have u1:=C.pre (E.trans R);have d8:hp (put w.drew b1 ((dG (hp w.drew b1)).setIfInBounds (h.1.toNat*2+0) (bS 2)) (dH (hp w.drew b1))) g7=some (.cells (bB h).toArray 32):=by
   rw[aV]
   ·exact h7
   ·intro e;subst e;rw[show hp w.drew g7=_ from h7,aT,decide_eq_true_eq]at ok;obtain⟨sv,_,_,M⟩:=I.rd;obtain⟨A',c',d9,f3⟩:=sx M.sT;have c4:=M.sl;rw[show ao (hp w g) (0+7)=_ from u]at c4;cases c4;cases d9;have O:=(fD M.sT.choose_spec).1;rcases O.2 with⟨hx,_⟩|⟨gg,f4,f5,hx,_,c5,_⟩
    ·cases hx
    ·cases hx;have e1:w.heap[g7]? =some (.cells (bB h).toArray 32):=h7;rw[e1]at c5;cases c5
  generalize put w.drew b1 ((dG (hp w.drew b1)).setIfInBounds (h.1.toNat*2+0) (bS 2)) (dH (hp w.drew b1))=w1 at*;obtain⟨_,_,_,M1⟩:=f.rd;have ml:=M1.l;by_cases Y:m.loose=true
  ·rw[show({m with slots:=m.slots.set h.1.toNat (2,h.2.1)}:dv).loose=true from Y]at ml;have c6:ad [] w1 w1.drew:=(ad.refl _ _).drew;have s3:({m with slots:=m.slots.set h.1.toNat (2,h.2.1)}:dv).slots[h.1.toNat]? =some (2,h.2.1):=by
    show(m.slots.set _ _)[_]? =_;rw[cU,bX rfl,bX (ce.1 a7).1]
   obtain⟨b2,c2,H,L,F2,h3,h4⟩:=(f.an c6).slotSet s3 (p':=(0,h.2.1)) (k:=0) (x:=0) dy rfl;have a4:({m with slots:=m.slots.set h.1.toNat (2,h.2.1)}:dv).slots.length=m.slots.length:=by simp
   rw[a4]at H;have c7:=ia_86 (b:=b2) (p:=0) (n:=m.slots.length) (c:=c2) (j:= .i64) (i:=h.1) dy dy;rw[cV]at c7;simp only[zS,fa_90_1,aB,ml,show ao (hp w1 g) (0+7)=_ from H,d8,e0,c7,nS,Y,if_true];rw[hC (o:=h.1.toNat*2+0) rfl rfl L];have e2:({m with slots:=m.slots.set h.1.toNat (0,h.2.1)}:dv)={({m with slots:=m.slots.set h.1.toNat (2,h.2.1)}:dv)with slots:=({m with slots:=m.slots.set h.1.toNat (2,h.2.1)}:dv).slots.set h.1.toNat (0,h.2.1)}:=by simp[List.set_set]
   rw[<- e2,Y]at h3;exact⟨by first|rfl|trivial,F2,h3,u1.trans (h4.pre c6)⟩
  ·have a8:m.loose=false:=by simpa using Y
   rw[show({m with slots:=m.slots.set h.1.toNat (2,h.2.1)}:dv).loose=false from a8]at ml;simp only[zS,fa_90_1,aB,ml,a8,Bool.false_eq_true,if_false];rw[a8]at f;exact⟨by first|rfl|trivial,G,f,u1⟩
 ·simp only[L42_0,zS,am,ag,B,aJ,bn a,bn y,bn D,bn S,bn k8,bn k9,bn X];rw[Z,bY a,bY y,bY D,bY S,bY k8,bY k9,bY X];exact⟨by first|rfl|trivial,F,I,aO.bV E⟩
theorem c_mDoes(I:jP w g m F)(L:Wf m K)(O:K<=1000000)(P:jQ m n o=true)(H:m.hands[n.toNat]? =some d)(Q:cf m d o h=0):
  aa prog 42 [bU g,bS n,.agg (dC o).toArray,.agg (bB h).toArray] w λv a=>v= .tuple #[]/\∃y,jP a g (fF m n o h) y/\aO F y w a:=by
 apply F42_ok;obtain⟨X,Y,R⟩:=may_n P;simp only[F42,ak,au,ah];generalize u:(w.alloc (.cells (dC o).toArray 37)).alloc _=w1;have z:ad [] w w1:=by rw[<- u];exact((ad.refl _ _).alloc _).alloc _
 have S:hp w1 w.heap.size=some (.cells (dC o).toArray 37):=by rw[<- u,af,ah,bY dy,af,bX rfl]
 have J:hp w1 (w.heap.size+1)=some (.cells (bB h).toArray 32):=by rw[<- u,af,ah,bX rfl]
 clear u;generalize w.heap.size=g6 at*;have C:∀a,hp a (g6+1)=some (.cells (bB h).toArray 32)->fR prog 32 (.pointer (some ⟨g6+1,0,none⟩)) a=some (.agg (bB h).toArray):=λa u=>aR (t:=32) (c:=(bB h).toArray) qX (show(Tryz.prog.info? 32).map (·.size)=some (bB h).toArray.size from ma) u;obtain⟨_,_,hv,M⟩:=I.rd;obtain⟨Fh,T⟩:=M.hT;obtain⟨b,c,U,_⟩:=hd_at T H;have hb:=M.hl;rw[U]at hb;have Z:ad [] w w1.drew:=z.drew;have D:hp w1.drew (g6+1)=some (.cells (bB h).toArray 32):=J;have l:=λa (k:ad [] w a)=>bu k hb;have A:=ia_88 (b:=b) (p:=0) (n:=m.hands.length) (c:=c) (j:= .i64) (i:=n) dy dy;rw[cV]at A;have nm:∀(a:World) {K:Value->World->Prop},(∀ q,ad [] a q->K (.agg (gD (dW h)).toArray) q)->aa prog 41 [.agg (bB h).toArray] a K:=λa K V=>(kT h a).mono λv q hv=>by obtain⟨rfl,W⟩:=hv;exact V q W
 have r:∀f,ad [] w1 f->∀t:Nat,w1.heap.size<=t->hp f t=some (.cells #[bS 0,bS 0] 96)->
   dE prog (Instr.storeAt 96 (bU t) (.agg (gD (dW h)).toArray)) f λa=>
   P42_0 (bU g) (bU g6) (.pointer (some ⟨g6+1,0,none⟩)) (.pointer (some ⟨b,n.toNat*2,none⟩)) (bU t) a λv a=>v= .tuple #[]/\∃y,jP a g (fF m n o h) y/\aO F y w a:=by
  intro f x t E B;rw[st_96 (by rfl) (by rfl) (by rw[B];rfl) (by rw[B];rfl),B];simp only[ar];have G:ad [] w1 (put f t (gD (dW h)).toArray 96):=x.put (.inr E) _ _;have s:=z.trans G;exact l_does0 s (I.an s) L O (G.at S (by simp)) (G.at J (by simp)) (aq (az B) _ _) H Q R (l _ s)
 simp only[zS,qx,ld_88,show ao (hp w1 g) (0+9)=_ from l _ z,A,C _ D,al_96];repeat' (with_reducible apply And.intro)
 all_goals first
  |(refine nm _ ?_
    intro f x;have e:ad [] w1 f:=(((ad.refl [] w1).drew).alloc _).trans x;try simp only[zS,l _ (z.trans e),A]
    exact r f e _ (cy _) (x.at (by rw[af,bX rfl]) (by simp)))
  |(refine nm _ ?_
    intro f x;have e:ad [] w1 f:=((ad.refl [] w1).drew).trans x;try simp only[zS,l _ (z.trans e),A]
    exact r _ (e.alloc _) _ e.size (by rw[af,bX rfl]))
end
section
variable{W w:World}{g g5 b i k:Nat}{m:dv}{F:Fp}{K:Nat}{r:eO}
theorem kM{e:TypeId}{z n:Nat}{x:Value}{xs d:List Value}{p q:Nat}(h:w.ownsRow p e z x n xs)(k:w.ownsRow q e z x n d):xs=d:=by
 rcases h.2 with⟨rfl,rfl⟩|⟨g,m,o,rfl,_,r,_,_,_,s⟩
 ·have f:=h.1;have i:=k.1;simp at f i;rw[f,i]
 ·rcases k.2 with⟨b,_⟩|⟨t,j,l,b,_,a,_,_,_,c⟩
  ·cases b
  ·cases b;rw[r]at a;cases a;rw[<- s,<-c]
theorem Ev.aO.an{F a:Fp}{w w1:World}(u:aO F a w w1){x:Nat}{o:Obj}(b:hp w x=some o)(c:¬F x):hp w1 x=some o/\¬a x:=by
 refine⟨u.aw.at b c,λh=>?_⟩;rcases u.sub x h with h1|h1
 ·exact c h1
 ·have:=az b;omega
theorem slots_blk(I:jP w g m F){n c:Nat}(i:ao (hp w g) (0+7)=some (.slice (some ⟨b,0,none⟩) n c)):b≠g/\F b:=by
 obtain⟨v,o,p,f,a,d,j,_⟩:=dV.cell I (gF m) (k:=7) (P:=jd m.slots) rfl;rw[show ao (hp w g) 7=_ from i]at d;cases d;obtain⟨xs,q,_,_,_,l⟩:=j;have hb:=(l b).2 (.inl rfl);exact⟨λe=>f (by rw[<- e];exact hb),a b hb⟩
theorem st_slot{x y:Value}{o:Nat}{L:World->Prop}(a:x.oneCell'=true)(c:y.oneCell'=true)(d:x.cells= #[x])(e:y.cells= #[y])(ok:mX (hp w b) (o+2)=true):dE prog (Instr.storeAt 142 (.pointer (some ⟨b,o,none⟩)) (.agg #[x,y])) w L=L (put w b (((dG (hp w b)).setIfInBounds o x).setIfInBounds (o+1) y) (dH (hp w b))):=by
 exact mh (v:= .agg #[x,y]) sz_142 rfl (by show(List.all [x,y] _)=true;simp[a,c]) dz ok
theorem jP.slotSet2(I:jP w g m F){p p':iD}(d:m.slots[i]? =some p):
  ∃b c,ao (hp w g) (0+7)=some (.slice (some ⟨b,0,none⟩) m.slots.length c)/\b≠g/\F b/\mX (hp w b) (i*2+2)=true/\
   ∃u,jP (put w b (((dG (hp w b)).setIfInBounds (i*2) (bS p'.1)).setIfInBounds (i*2+1) (bS p'.2)) (dH (hp w b))) g {m with slots:=m.slots.set i p'} u/\aO F u w (put w b (((dG (hp w b)).setIfInBounds (i*2) (bS p'.1)).setIfInBounds (i*2+1) (bS p'.2)) (dH (hp w b))):=by
 obtain⟨b,c,o,ok,B,y,v⟩:=I.slotSet d (p':=(p'.1,p.2)) (k:=0) (x:=p'.1) dy rfl;obtain⟨f,q⟩:=slots_blk I o;have r:({m with slots:=m.slots.set i (p'.1,p.2)}:dv).slots[i]? =some (p'.1,p.2):=by
  show(m.slots.set _ _)[_]? =_;rw[cU,bX rfl,bX (ce.1 d).1]
 obtain⟨C,D,j,a,z,l,n⟩:=y.slotSet r (p':=p') (k:=1) (x:=p'.2) dy rfl;have s:({m with slots:=m.slots.set i (p'.1,p.2)}:dv).slots.length=m.slots.length:=by simp
 rw[s,aV (Ne.symm f),o]at j;cases j;obtain⟨E,e,hb,A⟩:=okC_cases ok;have t:=az hb;rw[hb]at l n a v;rw[ay,ar,aq t]at l n a;rw[ay,ar,jI]at l n;have es:({m with slots:=m.slots.set i p'}:dv)={({m with slots:=m.slots.set i (p'.1,p.2)}:dv)with slots:=({m with slots:=m.slots.set i (p'.1,p.2)}:dv).slots.set i p'}:=by simp[List.set_set]
 refine⟨b,c,o,f,q,?_,z,?_,?_⟩
 ·rw[hb,aT];rw[aT,decide_eq_true_eq]at a;simp at a;exact cj a
 ·rw[hb,es];exact l
 ·rw[hb];exact aO.trans v n
theorem jP.qY(I:jP w g m F){n c:Nat}(hb:ao (hp w g) (0+8)=some (.slice (some ⟨b,0,none⟩) n c))(M:m.rgs[i]? =some r)(O:k<7){P:Th}(Q:(rgT r)[k]? =some P):
  ∃v l,(∀ x,l x->F x)/\F b/\¬l b/\ao (hp w b) (i*7+k)=some v/\P w l v/\
   ∀w1 E P' v' r',aO l E w w1->dO P'->P' w1 E v'->rgT r'=(rgT r).set k P'->mX (hp w1 b) (i*7+k+1)=true/\v'.cells= #[v']/\v'.oneCell'=true/\
    ao (hp (put w1 b ((dG (hp w1 b)).setIfInBounds (i*7+k) v') (dH (hp w1 b))) g) (0+8)=some (.slice (some ⟨b,0,none⟩) n c)/\
    ∃o,jP (put w1 b ((dG (hp w1 b)).setIfInBounds (i*7+k) v') (dH (hp w1 b))) g {m with rgs:=m.rgs.set i r'} o/\aO F o w (put w1 b ((dG (hp w1 b)).setIfInBounds (i*7+k) v') (dH (hp w1 b))):=by
 obtain⟨rv,Fr,X,p,d,q,R,s,_⟩:=dV.cell I (gF m) (k:=8) (P:=km m.rgs) rfl;have G:(m.rgs.flatMap rgT)[i*7+k]? =some P:=(ba qF m.rgs i r M k O).trans Q;obtain⟨Y,Z,v,l,H,t,J,a,y,hv,h3,S⟩:=aL.cell R (jB m.rgs) G;rw[show ao (hp w g) 8=_ from hb,H]at q;cases q;have K:b≠g:=λe=>p (by rw[<- e];exact t);refine⟨v,l,λx H=>d x (a x H),d b t,J,y,hv,λw1 E P' v' r' u z A L=>?_⟩;obtain⟨ok,o,f,B⟩:=S w1 E P' v' u z A;rw[gA qF O L M]at f;have j:km (m.rgs.set i r') (put w1 b ((dG (hp w1 b)).setIfInBounds (i*7+k) v') (dH (hp w1 b))) o rv:=by rw[km,cE];exact f
 obtain⟨T,U,V⟩:=s _ o (km (m.rgs.set i r')) B j;obtain⟨C,D⟩:=z.one A;refine⟨ok,C,D,?_,T,U,V⟩;rw[aV (Ne.symm K)];have:hp w1 g=hp w g:=u.aw.block g (by
  rcases cZ g w.heap.size with h|h
  ·exact h
  ·have W:hp w g=none:=by simp[hp];omega
   rw[W]at hb;cases hb) λh=>p (a g h)
 rw[this];exact hb
theorem jP.rgsPut(I:jP w g m F):∃v l,(∀ x,l x->F x)/\ao (hp w g) (0+8)=some v/\km m.rgs w l v/\
  ∀w1 i v' a,aO l i w w1->km a w1 i v'->mX (hp w1 g) (0+8+1)=true/\v'.cells= #[v']/\v'.oneCell'=true/\
   ∃j,jP (put w1 g ((dG (hp w1 g)).setIfInBounds (0+8) v') (dH (hp w1 g))) g {m with rgs:=a} j/\aO F j w (put w1 g ((dG (hp w1 g)).setIfInBounds (0+8) v') (dH (hp w1 g))):=by
 obtain⟨rv,Fr,s,o,b,n,p,_,c⟩:=dV.cell I (gF m) (k:=8) (P:=km m.rgs) rfl;refine⟨rv,Fr,b,n,p,λw1 i v' a u d=>?_⟩;obtain⟨ok,j,q,r⟩:=c w1 i (km a) v' u (ss a) d;obtain⟨e,f⟩:=(ss a).one d;exact⟨ok,e,f,j,q,r⟩
theorem rgs_grown{L:List eO}{d:World}{x x':Value}{xs:List Value}(h:km L w F x)(a:w.ownsRow 0 99 7 x L.length xs)(nm:iD)(cls:Int)
  (l:d.ownsRow 0 99 7 x' (L.length+1) (xs++ [bS nm.1,bS nm.2,bS cls,bS 0,.slice none 0 0,.slice none 0 0,.slice none 0 0])) (n:w.grownBy d x.ownBlock) (f:iB w x x'):
  ∃e,km (L++ [⟨nm,cls,0, [], [], []⟩]) d e x'/\aO F e w d:=by
 have o:fu w (rgT ⟨nm,cls,0, [], [], []⟩) [bS nm.1,bS nm.2,bS cls,bS 0,.slice none 0 0,.slice none 0 0,.slice none 0 0] (λ_=>ck):=by
  refine⟨rfl,λk P v i hv=>?_,λ_ _ _ _ _ b hb _=>hb⟩;have c:=(ce.1 i).1;rw[qF]at c;have g:k=0\/k=1\/k=2\/k=3\/k=4\/k=5\/k=6:=dy;rcases g with rfl|rfl|rfl|rfl|rfl|rfl|rfl<;>cases i<;>cases hv
  ·exact⟨rfl,λ_ h=>h⟩
  ·exact⟨rfl,λ_ h=>h⟩
  ·exact⟨rfl,λ_ h=>h⟩
  ·exact⟨rfl,λ_ h=>h⟩
  ·exact aL.nil
  ·exact aL.nil
  ·exact aL.nil
 obtain⟨e,p,j,_⟩:=aL.grow (G:=ck) (m:=1) h (jB L) (good_rg _) o (λb=>⟨λh=>h.elim,fun⟨_,_,h⟩=>h⟩) (λ_ _ h=>h) (λq r=>by rw[kM r a];exact l) n f;refine⟨e,?_,⟨j.aw.mono λk c=>c.resolve_right id,λk c=>(j.sub k c).imp (·.resolve_right id) id⟩⟩;rw[km,cJ,List.flatMap_append];simpa using p
theorem rs_beq(a b:jo):((a.1==b.1)&&(((a.2.1.1==b.2.1.1)&&((a.2.1.2.1==b.2.1.2.1)&&((a.2.1.2.2.1==b.2.1.2.2.1)&&((a.2.1.2.2.2.1==b.2.1.2.2.2.1)&&((a.2.1.2.2.2.2==b.2.1.2.2.2.2)&&(true))))))&&((a.2.2.1==b.2.2.1)&&((a.2.2.2==b.2.2.2)&&(true)))))=decide (a=b):=by
 obtain⟨c,⟨d,e,f,g,i⟩,j,k⟩:=a;obtain⟨l,⟨m,n,o,p,q⟩,r,s⟩:=b;by_cases t:c=l<;>by_cases u:d=m<;>by_cases v:e=n<;>by_cases w:f=o<;>by_cases x:g=p<;>by_cases y:i=q<;>by_cases z:j=r<;>by_cases A:k=s<;>simp[t,u,v,w,x,y,z,A]
theorem be_rs{x y:Operand}(a b:jo):be prog .eql 35 x y (.agg (fI a).toArray) (.agg (fI b).toArray)=some (.bool (decide (a=b))):=by rw[<- rs_beq];exact be_eql_35
theorem be_nrs{x y:Operand}(a b:jo):be prog .neq 35 x y (.agg (fI a).toArray) (.agg (fI b).toArray)=some (.bool (!decide (a=b))):=by rw[<- rs_beq];exact be_neq_35
theorem c_mTaken{s rv hh:Value}(M:MdR w g m s rv hh)(Wm:Wf m K)(hK:K<=1000000)(x:Int):aa prog 78 [bU g,bS x] w λv y=>v= .bool (jC m x)/\ad [] w y:=by
 apply F78_ok;obtain⟨A,c,o⟩:=rgs_sh M.rT;have z:=M.rl;rw[o]at z;have hl:=cQ Wm.rl hK;simp only[F78,zS,qw,ld_87,z,len_87];have B:∀(d i:Nat) (w1:World),ad [] w w1->(∀ (j:Nat) (r:eO),j<i->m.rgs[j]? =some r->(fO m r.nm&&decide (x∈r.chunks))=false)->i+d=m.rgs.length->
   P78_0 (bU g) (bS x) (.slice A m.rgs.length c) (bS m.rgs.length) (bS i) w1 λv y=>v= .bool (jC m x)/\ad [] w y:=by
  intro d;induction d with
  |zero=>
   intro i w1 L P hi;apply L78_0_ok;have:¬(i:Int)<m.rgs.length:=dy;simp only[L78_0,zS,this];refine⟨?_,L⟩;have:jC m x=false:=by
    rw[jC,List.any_eq_false];intro r o;obtain⟨j,q⟩:=dr o;rw[P j r (by have:=(ce.1 q).1;omega) q];simp
   rw[this]
  |succ d ih=>
   intro i w1 L P hi;apply L78_0_ok;have Q:(i:Int)<m.rgs.length:=dy;obtain⟨a,f⟩:∃a,m.rgs[i]? =some a:=⟨_,bZ dy⟩
   obtain⟨Fr,hF⟩:=(M.an L).rT;obtain⟨b,S,hx,C,wv,ov,R⟩:=rg_at hF f;rw[o]at hx;cases hx;have ia:=ia_87 (b:=b) (p:=0) (n:=m.rgs.length) (c:=c) (j:= .i64) (i:=(i:Int)) dy dy;rw[cq,cV]at ia;have lr:ldL (hp w1 b) (i*7) 7=some [bS a.nm.1,bS a.nm.2,bS a.cls,bS a.off,C,wv,ov]:=mI 7 _ _ rfl λj u q=>by
    have T:=(ce.1 q).1;simp at T;have h7:j=0\/j=1\/j=2\/j=3\/j=4\/j=5\/j=6:=dy;rcases h7 with rfl|rfl|rfl|rfl|rfl|rfl|rfl<;>cases q
    ·exact R.c0
    ·exact R.c1
    ·exact R.c2
    ·exact R.c3
    ·exact R.c4
    ·exact R.c5
    ·exact R.c6
   obtain⟨Fc,D⟩:=R.cT;obtain⟨Fw,U⟩:=R.wT;obtain⟨Fo,V⟩:=R.oT;have E:=((bq _).one D).2;have F:=((fJ _).one U).2;have G:=((gf _).one V).2;simp only[L78_0,zS,Q,ia,ld_99,lr,Option.map_some,al_99];rw[st_99 (by rfl) (by show(List.all [_,_,_,_,C,wv,ov] _)=true;have oi:∀(k:IntKind) (x:Int),(Value.int k x).oneCell'=true:=λ_ _=>rfl;simp[E,F,G,oi]) (by rw[af,bX rfl];rfl) (by rw[af,bX rfl];rfl),af,bX rfl,ar];generalize t:put (w1.alloc _) w1.heap.size _ _=w2;have c2:ad [] w1 w2:=by rw[<- t];exact((ad.refl _ _).alloc _).put (.inr (cy _)) _ _
   have a6:hp w2 w1.heap.size=some (.cells #[bS a.nm.1,bS a.nm.2,bS a.cls,bS a.off,C,wv,ov] 99):=by rw[<- t];exact aq (by simp) _ _
   clear t;have H:=L.trans c2;have ln:ldL (some (Obj.cells #[bS a.nm.1,bS a.nm.2,bS a.cls,bS a.off,C,wv,ov] 99)) (0+0) 2=some [bS a.nm.1,bS a.nm.2]:=rfl;simp only[fa_99_0,ld_96,a6,ln,Option.map_some,ac];refine(c_mIsLive (M.an H) a.nm).mono ?_;rintro _ W ⟨rfl,X⟩;have I:=H.trans X;have Y:=X.at a6 (by simp);have next:(fO m a.nm&&decide (x∈a.chunks))=false->P78_0 (bU g) (bS x) (.slice (some ⟨b,0,none⟩) m.rgs.length c) (bS m.rgs.length) (bS ((i:Int)+1)) W λv y=>v= .bool (jC m x)/\ad [] w y:=by
    intro hf;have:=ih (i+1) W I (λj r q o=>by
     rcases cZ j i with h1|h1
     ·exact P j r h1 o
     ·have:j=i:=dy;subst this;rw[f]at o;cases o;exact hf) dy
    rw[db i 1]at this;exact this
   cases J:fO m a.nm with
   |false=>
    simp only[zS,aj,ap (n:=(i:Int)+1) dy dy];exact next (by rw[J];rfl)
   |true=>
    obtain⟨A',S,Z,hR⟩:=lI ⟨_,D⟩;have e4:(#[Value.int .i64 a.nm.1,bS a.nm.2,bS a.cls,bS a.off,C,wv,ov])[0+4]? =some (.slice A' a.chunks.length S):=by rw[Z];rfl
    simp only[zS,nD,aH,Y,e4];apply F109_ok;simp only[F109];have a1:rr .i64 W A' a.chunks:=hR.an (c2.trans X).below;have a2:a.chunks.length<=1000000:=cQ (Wm.rg a (cD f)).cl hK;refine(c_iIndex (c:=S) a1 a2 x).step ?_;have l:decide (nH a.chunks x>=0)=decide (x∈a.chunks):=sy _ _;simp only[zS];by_cases O:x∈a.chunks
    ·rw[cj O]at l;have e:=of_decide_eq_true l;simp only[zS,e];refine⟨?_,I⟩;have:jC m x=true:=by
      rw[jC,List.any_eq_true];exact⟨a,cD f,by rw[J,cj O];rfl⟩
     rw[this]
    ·rw[cr O]at l;have e:=of_decide_eq_false l;simp only[zS,e,aj,ap (n:=(i:Int)+1) dy dy];exact next (by rw[cr O];simp)
 exact B m.rgs.length 0 w (ad.refl _ _) (λj r q=>dy) dy
end
section
variable{W w:World}{g g5:Nat}{m:dv}{F:Fp}{K:Nat}{r:jo}{cls:Int}{p:iD}
theorem jP.notF(I:jP W g m F){x:Nat}(h:W.heap.size<=x):¬F x:=λa=>by have:=dV.lt I (gF m) x a;omega
theorem rs_0(r:jo):(fI r).toArray[0+0]? =some (bS r.1):=rfl
theorem rs_1(r:jo):(fI r).toArray[0+1+0]? =some (bS r.2.1.1):=rfl
theorem rs_3(r:jo):(fI r).toArray[0+1+2]? =some (bS r.2.1.2.2.1):=rfl
theorem rs_h(r:jo)(e:TypeId):ldL (some (Obj.cells (fI r).toArray e)) (0+1) 5=some (bB r.2.1):=rfl
theorem l_creates0(J:ad [] W w)(X:jP W g m F)(Wm:Wf m K)(hK:K+1<=1000000)(n5:W.heap.size<=g5)(E:hp w g5=some (.cells (fI r).toArray 35))(r7:r≠bL 7)(M:0<=r.2.1.1/\r.2.1.1<m.slots.length)(l:m.slots[r.2.1.1.toNat]? =some p)(p0:p.1=0):
  P43_0 (bU g) (bS cls) (bU g5) (bS (bF p.2)) w λv Y=>v= .bool (cx m cls r).1/\∃q,jP Y g (cx m cls r).2 q/\aO F q W Y:=by
 apply L43_0_ok;have I:=X.an J;have G:cx m cls r=if r=(0,(r.2.1.1,bF p.2,0,0,0),0,0)then
    (true,{m with slots:=m.slots.set r.2.1.1.toNat (1,bF p.2),rgs:=m.rgs++ [⟨(r.2.1.1,bF p.2),cls,0, [], [], []⟩]})else(false,m):=by
  rw[cx,bY r7,bX M,l];simp only[ne_eq,p0,not_true_eq_false,if_false]
 have O:be prog .neq 35 (.tmp 54) (.tmp 60) (.agg (fI r).toArray) (.agg #[bS 0,bS r.2.1.1,bS (bF p.2),bS 0,bS 0,bS 0,bS 0,bT 0])=some (.bool (!decide (r=(0,(r.2.1.1,bF p.2,0,0,0),0,0)))):=be_nrs r (0,(r.2.1.1,bF p.2,0,0,0),0,0);simp only[L43_0,eW E,ac,lh,bG,ag,E,aN,rs_1,bd_32_0_1,bd_35_1,O];by_cases s:r=(0,(r.2.1.1,bF p.2,0,0,0),0,0)
 ·rw[bX s]at G;rw[G];have Z:ad [] w w.drew:=(ad.refl _ _).drew;obtain⟨b1,c1,hl,a1,a2,ok,F1,h1,h2⟩:=(I.an Z).slotSet2 (p':=(1,bF p.2)) l;have ia:=ia_86 (b:=b1) (p:=0) (n:=m.slots.length) (c:=c1) (j:= .i64) (i:=r.2.1.1) M.1 M.2;rw[cV]at ia;simp only[cj s,zS,nC,ld_86,show ao (hp w g) (0+7)=_ from hl,E,rs_1,bd_142_0_1,ia];rw[st_slot (o:=r.2.1.1.toNat*2) rfl rfl rfl rfl ok];have P:=h2.an (show hp w.drew g5=_ from E) (X.notF n5);generalize put w.drew b1 _ _=w1 at*;have e:ad [] w1 w1.drew:=(ad.refl _ _).drew;have a3:hp w1.drew g5=some (.cells (fI r).toArray 35):=P.1;have fin:∀w2,ad [] w1 w2->∃(v:Value) (t:Fp),ao (hp w2 g) (0+8)=some v/\(∀ x,t x->F1 x)/\
    ∀{Q:Value->World->Prop},(∀ x' a,mX (hp a g) (0+8+1)=true->x'.cells= #[x']->x'.oneCell'=true->
      (∃ q,jP (put a g ((dG (hp a g)).setIfInBounds (0+8) x') (dH (hp a g))) g {m with slots:=m.slots.set r.2.1.1.toNat (1,bF p.2),rgs:=m.rgs++ [⟨(r.2.1.1,bF p.2),cls,0, [], [], []⟩]} q/\aO F q W (put a g ((dG (hp a g)).setIfInBounds (0+8) x') (dH (hp a g))))->Q x' a)->
     dF prog (Instr.buildSlice 87 1 #[(0,.agg #[bS r.2.1.1,bS (bF p.2),bS cls,bS 0,.slice none 0 0,.slice none 0 0,.slice none 0 0])]) w2 λy a=>dF prog (Builtin.append_ #[87,87] 87 #[v,y]) a Q:=by
   intro w2 f;obtain⟨v,t,d,R,hR,z⟩:=(h1.an f).rgsPut;refine⟨v,t,R,d,fun{Q} hQ=>?_⟩;obtain⟨xs,Fs,H,q2,q3,q4⟩:=hR;have A:({m with slots:=m.slots.set r.2.1.1.toNat (1,bF p.2)}:dv).rgs.length=m.rgs.length:=rfl;rw[A]at H;have a4:=Wm.rl;refine ps_87 (λu hu=>by simp only[dg,dk,or_false]at hu;rcases hu with rfl|rfl|rfl|rfl|rfl|rfl|rfl<;>rfl) H dy (cX _) λx' a ho hg S=>?_;obtain⟨F3,r1,r2⟩:=rgs_grown (nm:=(r.2.1.1,bF p.2)) (cls:=cls) (L:=m.rgs) ⟨xs,Fs,H,q2,q3,q4⟩ H ho hg S;obtain⟨T,B,C,F4,t1,t2⟩:=z a F3 x' _ r2 r1;exact hQ x' a T B C ⟨F4,t1,(h2.pre (J.trans Z)).trans (t2.pre f)⟩
  obtain⟨v0,a5,D,a6,_⟩:=fin w1 (ad.refl _ _);have en:dW r.2.1=(r.2.1.1,bF p.2):=by
   have:=congrArg (λx:jo=>x.2.1.2.1) s;simp only at this;rw[dW,this]
  constructor
  ·simp only[zS,qw,ld_87,D,ld_32,P.1,rs_h,Option.map_some];refine(kT r.2.1 w1.drew).mono ?_;rintro _ w2 ⟨rfl,f⟩;obtain⟨v,t,hv,d,U⟩:=fin w2 (e.trans f);rw[bu (e.trans f) D]at hv;cases hv;have k:(gD (r.2.1.1,r.2.1.2.1)).toArray= #[bS r.2.1.1,bS (bF p.2)]:=by
    have:=congrArg (λx:iD=>(gD x).toArray) en;exact this
   simp only[zS,k,bd_99_0_1];refine U λx' a ok B C V=>?_;rw[st_87 (o:=0+8) B C ok];apply L43_1_ok;exact⟨rfl,V⟩
  ·simp only[zS,qw,ld_32,P.1,rs_h,Option.map_some];refine(kT r.2.1 w1.drew).mono ?_;rintro _ w2 ⟨rfl,f⟩;obtain⟨v,t,hv,d,U⟩:=fin w2 (e.trans f);have k:(gD (r.2.1.1,r.2.1.2.1)).toArray= #[bS r.2.1.1,bS (bF p.2)]:=by
    have:=congrArg (λx:iD=>(gD x).toArray) en;exact this
   simp only[zS,k,bd_99_0_1,ld_87,hv];refine U λx' a ok B C V=>?_;rw[st_87 (o:=0+8) B C ok];apply L43_1_ok;exact⟨rfl,V⟩
 ·rw[bY s]at G;simp only[cr s,zS];rw[G];exact⟨rfl,F,I,aO.bV J⟩
theorem c_mCreates(I:jP w g m F)(H:Wf m K)(W:K+1<=1000000)(cls:Int)(r:jo):
  aa prog 43 [bU g,bS cls,.agg (fI r).toArray] w λv u=>v= .bool (cx m cls r).1/\∃y,jP u g (cx m cls r).2 y/\aO F y w u:=by
 apply F43_ok;have s:hp (w.alloc (.cells (fI r).toArray 35)) w.heap.size=some (.cells (fI r).toArray 35):=by rw[af,bX rfl]
 have a:ad [] w (w.alloc (.cells (fI r).toArray 35)):=(ad.refl _ _).alloc _;simp only[F43,ak,au];generalize w.alloc (.cells (fI r).toArray 35)=w0 at*;have X:w.heap.size<=w.heap.size:=cy _;generalize Y:w.heap.size=g5 at*;have Z:w.heap.size<=g5:=dy;obtain⟨_,_,_,M⟩:=(I.an a).rd;have J:be prog .eql 35 (.tmp 9) (.tmp 10) (.agg (fI r).toArray) (.agg #[bS 7,bS 0,bS 0,bS 0,bS 0,bS 0,bS 0,bT 0])=some (.bool (decide (r=bL 7))):=be_rs r (bL 7);simp only[eW s,ac,bd_35_0,J];by_cases t:r=bL 7
 ·have L:cx m cls r=(m.loose||decide (gy m.slots=0),m):=by rw[cx,bX t]
  simp only[cj t,zS,fa_90_1,aB,M.l];rw[L];by_cases z:m.loose=true
  ·simp only[z,zS];exact⟨by simp,F,I.an a,aO.bV a⟩
  ·have O:m.loose=false:=by simpa using z
   simp only[O,zS];refine(c_mSpare M H.sl).mono ?_;rintro _ w1 ⟨rfl,S⟩;simp only[zS];refine⟨?_,F,I.an (a.trans S),aO.bV (a.trans S)⟩;by_cases T:gy m.slots=0
   ·rw[T];rfl
   ·rw[bn (show(gy m.slots:Int)≠0 by omega),cr T];rfl
 ·have C:ad [] w0 w0.drew:=(ad.refl _ _).drew;have P:¬(0<=r.2.1.1/\r.2.1.1<m.slots.length)->cx m cls r=(false,m):=λh=>by rw[cx,bY t,bY h]
  have U:=I.an (a.trans C);have Q:=M.an C;simp only[cr t,zS,lh,bG,ag,s,rs_1];refine(c_mSlot Q r.2.1.1).step ?_;by_cases i:0<=r.2.1.1/\r.2.1.1<m.slots.length
  ·obtain⟨p,d⟩:∃p,m.slots[r.2.1.1.toNat]? =some p:=⟨_,bZ dy⟩
   obtain⟨A,c,R,hR⟩:=sx Q.sT;obtain⟨b,o,D,q2,q3⟩:=slot_at (c:=c) hR d;have j:((r.2.1.1.toNat:Nat):Int)=r.2.1.1:=dy;rw[j]at D;have V:=Q.sl;rw[R]at V;have k:ao (hp w0 g) (0+7)=some (.slice A m.slots.length c):=V;have q:ao (hp w0 b) (o+0)=some (bS p.1):=q2;have B:ao (hp w0 b) (o+1)=some (bS p.2):=q3;by_cases E:p.1=0
   ·have pg:=H.sg p (cD d);have G:(p.1 !=0)=false:=by rw[E];rfl
    have fin:∀x,bF p.2=x->P43_0 (bU g) (bS cls) (bU g5) (bS x) w0.drew.drew λv u=>v= .bool (cx m cls r).1/\∃y,jP u g (cx m cls r).2 y/\aO F y w u:=by
     rintro x rfl;exact l_creates0 (a.drew.drew) I H W Z (show hp w0.drew.drew g5=_ from s) t i d E
    by_cases e:p.2<4294967295
    ·have f:=fin (p.2+1) (by rw[bF,bX e]);simp only[zS,i,and_self,nC,ld_86,k,bG,ag,s,rs_1,D,nS,fa_142_1,q,B,G,e,aj,ap (n:=p.2+1) dy dy];exact f
    ·have f:=fin 0 (by rw[bF,bY e]);simp only[zS,i,and_self,nC,ld_86,k,bG,ag,s,rs_1,D,nS,fa_142_1,q,B,G,e];exact f
   ·have G:(p.1 !=0)=true:=bne_iff_ne.2 E;have L:cx m cls r=(false,m):=by
     rw[cx,bY t,bX i,d];simp only[ne_eq,E,not_false_eq_true,if_true]
    simp only[zS,i,and_self,nC,ld_86,k,bG,ag,s,rs_1,D,nS,q,G];rw[L];exact⟨by first|rfl|trivial,F,U,aO.bV (a.trans C)⟩
  ·simp only[zS,i];rw[P i];exact⟨by first|rfl|trivial,F,U,aO.bV (a.trans C)⟩
end
section
variable{W w:World}{g g7 g11 b c i:Nat}{m:dv}{F F0:Fp}{K:Nat}{r:jo}{x:eO}{want:eF}{need:Int}
theorem jh{h:eF}{g:Nat}{e:TypeId}(hb:hp w g=some (.cells (bB h).toArray e)):fR prog 32 (bU g) w=some (.agg (bB h).toArray):=aR (t:=32) (c:=(bB h).toArray) qX (show(Tryz.prog.info? 32).map (·.size)=some (bB h).toArray.size from ma) hb
theorem set_rg{i:Nat}{x y:eO}(m:dv):{({m with rgs:=m.rgs.set i x}:dv)with rgs:=({m with rgs:=m.rgs.set i x}:dv).rgs.set i y}={m with rgs:=m.rgs.set i y}:=by simp[List.set_set]
theorem at_set{i:Nat}{x y:eO}(a:m.rgs[i]? =some x):({m with rgs:=m.rgs.set i y}:dv).rgs[i]? =some y:=by
 show(m.rgs.set i y)[i]? =_;rw[cU,bX rfl,bX (ce.1 a).1]
theorem sC(n:Nat)(c:n<=maxLen):jA (List.replicate n 0) (w.alloc (.cells (fE (List.replicate n 0)).toArray 33)) (λb=>b=w.heap.size) (.slice (some ⟨w.heap.size,0,none⟩) n n):=by
 have h:(w.alloc (.cells (fE (List.replicate n 0)).toArray 33)).ownsRow 0 33 1 (.slice (some ⟨w.heap.size,0,none⟩) n n) n (fE (List.replicate n 0)):=
  ⟨by simp[fE],.inr ⟨w.heap.size,n,_,rfl,cX _,heap_alloc_new w _,cy _,c,by simp[fE],by simp[fE]⟩⟩
 have a:=gW h;have e:(λb=>(Value.slice (some ⟨w.heap.size,0,none⟩) n n).ownBlock=some b)=(λb=>b=w.heap.size):=by
  funext b;simp[Value.ownBlock,eq_comm]
 rw[e]at a;rw[jA,dt];exact a
theorem l_gives1(U:aO F0 F W w)(I:jP w g m F)(hb:ao (hp w g) (0+8)=some (.slice (some ⟨b,0,none⟩) m.rgs.length c))(C:m.rgs[i]? =some x)(D:x.objs.length<=1000000)(n:hp w g11=some (.cells (bB want).toArray 32)):
  P44_1 (.pointer (some ⟨b,i*7,none⟩)) (bU g11) w λv t=>v= .bool true/\∃y,jP t g {m with rgs:=m.rgs.set i {x with objs:=x.objs++ [want]}} y/\aO F0 y W t:=by
 apply L44_1_ok;have p:ad [] w w.drew:=(ad.refl _ _).drew;obtain⟨v,O,z,E,a,q,hv,d⟩:=(I.an p).qY (hb:=bu p hb) C (k:=6) dy (P:=lH x.objs) rfl;have f:hp w.drew g11=some (.cells (bB want).toArray 32):=n;simp only[L44_1,zS,fa_99_5,sh,show ao (hp w b) (i*7+6)=_ from q,jh f];obtain⟨j,_⟩:=fD hv;refine ps_76 (λu A=>by simp only[dg,dk,or_false]at A;rcases A with rfl|rfl|rfl|rfl|rfl<;>rfl) j dy (cX _) λx' w2 G H a=>?_;obtain⟨B,r,s⟩:=mq (vs:=bB want) hv G H a;have l:lH (x.objs++ [want]) w2 B x':=by
  rw[lH,cJ];have e:(x.objs++ [want]).flatMap bB=x.objs.flatMap bB++bB want:=by simp
  rw[e];exact r
 obtain⟨ok,J,K,_,F3,L,M⟩:=d w2 B (lH (x.objs++ [want])) x' {x with objs:=x.objs++ [want]} s (gf _) l rfl;rw[st_76 (o:=i*7+6) J K ok];exact⟨by first|rfl|trivial,F3,L,U.trans (M.pre p)⟩
theorem l_gives0(U:aO F0 F W w)(I:jP w g m F)(Wm:Wf m K)(hK:K+1<=1000000)(hb:ao (hp w g) (0+8)=some (.slice (some ⟨b,0,none⟩) m.rgs.length c))(C:m.rgs[i]? =some x)(X:x.objs.length<=1000000)
  (h7:hp w g7=some (.cells (fI r).toArray 35)) (q:hp w g11=some (.cells (bB want).toArray 32)) (Y:¬F g11):
  P44_0 (bU g) (bU g7) (.pointer (some ⟨b,i*7,none⟩)) (bS need) (bU g11) (.bool (ef x m.c.2.2.1 need)) w λv w'=>
   v= .bool (if r=(0,want,0,0)then true else false)/\∃F',jP w' g (if r=(0,want,0,0)then{m with rgs:=m.rgs.set i (lJ m.c.2.2.1 need x want)}else m) F'/\aO F0 F' W w':=by
 apply L44_0_ok;have b8:be prog .neq 35 (.tmp 74) (.tmp 76) (.agg (fI r).toArray) (.agg (fI (0,want,0,0)).toArray)=some (.bool (!decide (r=(0,want,0,0)))):=be_nrs r (0,want,0,0);have b9:ai prog (Instr.build 35 #[(1,.agg (bB want).toArray)])=some (.agg (fI (0,want,0,0)).toArray):=bd_35_1;have W1:=Wm.w1;have W2:=Wm.w2;have R:=Wm.rg x (cD C);simp only[L44_0,eW h7,jh q,b9,b8,ac];by_cases D:r=(0,want,0,0)
 ·rw[bX D,bX D];cases hf:ef x m.c.2.2.1 need with
  |true=>
   obtain⟨f1,f2,f3,f4⟩:=pV hf;obtain⟨v,Fk,Z,c1,E,s,hv,f⟩:=I.qY (hb:=hb) C (k:=3) dy (P:=iT x.off) rfl;rw[hv.1]at s;obtain⟨ok,s1,s2,H,F1,t1,t2⟩:=f w ck (iT (x.off+need)) (bS (x.off+need)) {x with off:=x.off+need} (aO.none hv.2 w) (bH _ _) ⟨rfl,λ_ h=>h⟩ rfl;simp only[cj D,zS,fa_99_2,ag,s,aj,ap (n:=x.off+need) dy dy];rw[hC (o:=i*7+3) s1 s2 ok];have t:=t2.an q Y;have J:({m with rgs:=m.rgs.set i {x with off:=x.off+need}}:dv).rgs.length=m.rgs.length:=by simp
   have:=l_gives1 (U.trans t2) t1 (hb:=by rw[J];exact H) (at_set C) X t.1;rw[set_rg]at this;have eg:lJ m.c.2.2.1 need x want={x with off:=x.off+need,objs:=x.objs++ [want]}:=by rw[lJ,hf];rfl
   rw[eg];exact this
  |false=>
   have cd:ad [] w w.drew:=(ad.refl _ _).drew;obtain⟨v,Fk,Z,c1,E,s,hv,f⟩:=(I.an cd).qY (hb:=bu cd hb) C (k:=4) dy (P:=eP x.chunks) rfl;have a1:hp w.drew g11=some (.cells (bB want).toArray 32):=q;have e2:(bB want).toArray[0+2]? =some (bS want.2.2.1):=rfl;simp only[cj D,zS,nD,fy,aH,ag,show ao (hp w b) (i*7+4)=_ from s,q,e2];obtain⟨a2,_⟩:=fD hv;have h1:=R.cl;refine ps_22 (λu hu=>by simp only[dg,dk,or_false]at hu;rcases hu with rfl;rfl) a2 dy (cX _) λx1 w2 ho hg E=>?_;obtain⟨F2,c2,c3⟩:=mq (vs:= [Value.int .i64 want.2.2.1]) hv ho hg E;have a3:eP (x.chunks++ [want.2.2.1]) w2 F2 x1:=by
    rw[eP,cJ];have e:ints (x.chunks++ [want.2.2.1])=ints x.chunks++ [Value.int .i64 want.2.2.1]:=by simp[ints]
    rw[e];exact c2
   obtain⟨ok,s1,s2,H,F3,t1,t2⟩:=f w2 F2 (eP (x.chunks++ [want.2.2.1])) x1 {x with chunks:=x.chunks++ [want.2.2.1]} c3 (bq _) a3 rfl;rw[sj (o:=i*7+4) s1 s2 ok];have t:=t2.an a1 Y;have U1:=U.trans (t2.pre cd);generalize put w2 b _ _=a at*;generalize L:({x with chunks:=x.chunks++ [want.2.2.1]}:eO)=d at*;have c4:=at_set (m:=m) (y:=d) C;have g3:({m with rgs:=m.rgs.set i d}:dv).rgs.length=m.rgs.length:=by simp
   generalize a4:({m with rgs:=m.rgs.set i d}:dv)=m1 at*;have c5:m1.c=m.c:=by rw[<- a4]
   have z:ad [] a a.drew:=(ad.refl _ _).drew;obtain⟨v5,a5,M,_,_,a6,c6,O⟩:=(t1.an z).qY (hb:=bu z H) c4 (k:=5) dy (P:=eG d.words) rfl;obtain⟨_,_,_,M3⟩:=t1.rd;have c7:ao (hp a g) (0+0+2)=some (bS ((m.c.2.2.1.toNat:Nat):Int)):=by
    have:=M3.c 2 dy;rw[c5]at this;rw[show((m.c.2.2.1.toNat:Nat):Int)=m.c.2.2.1 by omega];exact this
   obtain⟨iu,c8,c9,a7,d1⟩:=inf_33;generalize hn:m.c.2.2.1.toNat=n at*;have h2:(n:Int)=m.c.2.2.1:=dy;simp only[zS,qy,s8,fj,od,ag,show ao (hp a b) (i*7+5)=_ from a6,c7,jJ (P:=prog) (kl:= .i64) (kc:= .i64) (n:=n) Tryz.underlying139 c8 c9 (by rw[a7];omega) (by rw[d1];omega) dy];have d2:madeCells (Value.int .u64 0).cells (n*iu.size)=(fE (List.replicate n 0)).toArray:=by
    apply Array.toList_inj.1;rw[a7,dm];have:=toList_madeCells_one (Value.int .u64 0) n;rw[fE,List.map_replicate];exact this
   rw[d2];have n3:a.drew.heap.size=a.heap.size:=rfl;have ob:=sC (w:=a.drew) n (by unfold maxLen;omega);generalize a8:a.drew.alloc (.cells (fE (List.replicate n 0)).toArray 33)=wA at*;have cA:ad [] a.drew wA:=by rw[<- a8];exact(ad.refl _ _).alloc _
   have sA:wA.heap.size=a.heap.size+1:=by rw[<- a8,ah,n3]
   have a9:=(fJ d.words).frame c6 (aW.bV cA ck) (λ_ _ h=>h);obtain⟨xs,Fs,q1,q2,q3,q4⟩:=a9;have h3:d.words.length<=1000000:=by rw[<- L];have:=R.wl;simp only;omega
   refine ps_97 (λu hu=>by simp only[dg,dk,or_false]at hu;rcases hu with rfl;rfl) q1 dy (cX _) λx2 w4 d3 d4 b1=>?_;have hy:fu wA [jA (List.replicate n 0)] [.slice (some ⟨a.drew.heap.size,0,none⟩) n n] (λ_=>λb=>b=a.drew.heap.size):=⟨rfl,λk P v T hv=>by
    have p:=(ce.1 T).1;have:k=0:=by simp at p;omega
    subst this;cases T;cases hv;exact ob,λj k hj p h4=>by simp at hj p;omega⟩
   have d5:∀k,a5 k->k<a.heap.size:=λk p=>dV.lt (t1.an z) (gF m1) k (M k p);obtain⟨F5,g1,V,_⟩:=aL.grow (G:=λb=>b=a.drew.heap.size) (m:=1) ⟨xs,Fs,q1,q2,q3,q4⟩ (λP T=>by obtain⟨l,_,rfl⟩:=List.mem_map.1 T;exact ga l) (λP T=>by rw[dh.1 T];exact ga _) hy
    (λb=>⟨λh=>⟨0,by simp,h⟩,fun⟨_,_,h⟩=>h⟩) (λk p h5=>by have:=d5 k p;omega) (λh6 h'=>by rw[kM h' q1];exact d3) d4 b1
   have d6:aO a5 F5 a.drew w4:=by
    refine⟨⟨V.aw.os.trans cA.os,V.aw.tape.trans cA.tape,V.aw.output.trans cA.output,by have:=V.aw.size;omega,λk p hn=>?_⟩,λk p=>?_⟩
    ·rw[V.aw.block k dy (λh=>by rcases h with h|h;exact hn h;omega)];exact cA.block k p (by simp)
    ·rcases V.sub k p with h|h
     ·rcases h with h|h
      ·exact .inl h
      ·exact .inr dy
     ·exact .inr dy
   have d7:eG (d.words++ [List.replicate n 0]) w4 F5 x2:=by
    rw[eG,cJ,List.map_append];exact g1
   obtain⟨d8,d9,e1,e3,F6,Q,b2⟩:=O w4 F5 (eG (d.words++ [List.replicate n 0])) x2 {d with words:=d.words++ [List.replicate n 0]} d6 (fJ _) d7 rfl;rw[st_97 (o:=i*7+5) d9 e1 d8];have A:=b2.an (show hp a.drew g11=_ from t.1) t.2;have U2:=U1.trans (b2.pre z);have e4:({m1 with rgs:=m1.rgs.set i {d with words:=d.words++ [List.replicate n 0]}}:dv)={m with rgs:=m.rgs.set i {d with words:=d.words++ [List.replicate n 0]}}:=by rw[<- a4];exact set_rg m
   rw[e4]at Q;generalize put w4 b _ _=w5 at*;generalize b3:({d with words:=d.words++ [List.replicate n 0]}:eO)=B at*;have e5:=at_set (m:=m) (y:=B) C;obtain⟨_,_,_,M5⟩:=Q.rd;have e6:ao (hp w5 g) (0+0+2)=some (bS m.c.2.2.1):=M5.c 2 dy;simp only[zS,e6];refine(c_sAfter m.c.2.2.1 need w5).step ?_;obtain⟨v3,h8,e7,_,_,g4,e8,S⟩:=Q.qY (hb:=e3) e5 (k:=3) dy (P:=iT B.off) rfl;obtain⟨e9,f5,f6,f7,F7,b4,b5⟩:=S w5 ck (iT (eI m.c.2.2.1 need)) (bS (eI m.c.2.2.1 need)) {B with off:=eI m.c.2.2.1 need} (aO.none e8.2 w5) (bH _ _) ⟨rfl,λ_ h=>h⟩ rfl;simp only[zS,fa_99_2];rw[hC (o:=i*7+3) f5 f6 e9];have b6:=b5.an A.1 A.2;rw[set_rg]at b4;have f9:=at_set (m:=m) (y:={B with off:=eI m.c.2.2.1 need}) C;have b7:({B with off:=eI m.c.2.2.1 need}:eO).objs.length<=1000000:=by rw[<- b3,<-L];exact X
   have:=l_gives1 (U2.trans b5) b4 (hb:=by
    have J:({m with rgs:=m.rgs.set i {B with off:=eI m.c.2.2.1 need}}:dv).rgs.length=m.rgs.length:=by simp
    rw[J];exact f7) f9 b7 b6.1
   rw[set_rg]at this;have eg:lJ m.c.2.2.1 need x want={({B with off:=eI m.c.2.2.1 need}:eO)with objs:=({B with off:=eI m.c.2.2.1 need}:eO).objs++ [want]}:=by
    rw[lJ,hf,<-b3,<-L,hn];rfl
   rw[eg];exact this
 ·rw[bY D,bY D];simp only[cr D,zS];exact⟨by first|rfl|trivial,F,I,U⟩
end
section
variable{w:World}{g:Nat}{m:dv}{F:Fp}{K:Nat}
theorem c_mGives(I:jP w g m F)(P:Wf m K)(hK:K+1<=1000000)(n:Int)(h:eF)(r:jo){i:Nat}(hf:ek m.rgs (dW h)=some i):
  aa prog 44 [bU g,bS n,.agg (bB h).toArray,.agg (fI r).toArray] w λv f=>v= .bool (gB m n h r).1/\∃E,jP f g (gB m n h r).2 E/\aO F E w f:=by
 apply F44_ok;obtain⟨x,S,b3⟩:=ox hf;have R:=P.rg x (cD S);have W1:=P.w1;have W2:=P.w2;have gv:gB m n h r=if ef x m.c.2.2.1 (bW x.cls n)=false/\r=bL 6 then(true,m)
   else if ef x m.c.2.2.1 (bW x.cls n)=false/\(r.2.1.2.2.1<0\/m.c.2.1<=r.2.1.2.2.1\/jC m r.2.1.2.2.1=true)then(false,m)
   else if r=(0,ou m.c.2.2.1 (bW x.cls n) n x h r.2.1.2.2.1,0,0)then(true,{m with rgs:=m.rgs.set i (lJ m.c.2.2.1 (bW x.cls n) x (ou m.c.2.2.1 (bW x.cls n) n x h r.2.1.2.2.1))})
   else(false,m):=by
  rw[gB,hf];simp only[S]
 simp only[F44,ak,au,ah];generalize hw:(w.alloc (.cells (bB h).toArray 32)).alloc _=w1;have c1:ad [] w w1:=by rw[<- hw];exact((ad.refl _ _).alloc _).alloc _
 have a6:hp w1 w.heap.size=some (.cells (bB h).toArray 32):=by rw[<- hw,af,ah,bY dy,af,bX rfl]
 have a7:hp w1 (w.heap.size+1)=some (.cells (fI r).toArray 35):=by rw[<- hw,af,ah,bX rfl]
 clear hw;obtain⟨_,_,_,M⟩:=I.rd;simp only[jh a6,ac];refine(kT h w1).mono ?_;rintro _ w2 ⟨rfl,c2⟩;have T:=c1.trans c2;refine(th (M.an T) (h.1,h.2.1) (cQ P.rl dy)).mono ?_;rintro v a ⟨c3,hv⟩;have p:=T.trans c3;have a2:ek m.rgs (h.1,h.2.1)=some i:=hf;rw[a2]at hv;rcases hv with⟨hv,_⟩|⟨i',rg,b,c,a3,U,H,rfl⟩
 ·cases hv
 cases a3;rw[S]at U;cases U;have a4:∀f,ad [] w f->ao (hp f g) (0+8)=some (.slice (some ⟨b,0,none⟩) m.rgs.length c):=λf k=>by
  rw[<- H];exact(M.an k).rl
 obtain⟨G,hG⟩:=(M.an p).rT;obtain⟨b',c',hx,cv,wv,ov,V⟩:=rg_at hG S;rw[H]at hx;cases hx;have k2:=c2.trans c3;have f6:=k2.at a6 (by simp);have f7:=k2.at a7 (by simp);simp only[zS,fa_99_1,ag,V.c2];refine(c_sRound x.cls n a).step ?_;have e0:(bB h).toArray[0+0]? =some (bS h.1):=rfl;have e1:(bB h).toArray[0+1]? =some (bS h.2.1):=rfl;simp only[zS,bG,gR,fy,lh,ag,f6,f7,e0,e1,rs_3,tK,al_32];rw[st_32 (by rfl) (by rfl) (by rw[af,bX rfl];rfl) (by rw[af,bX rfl];rfl),af,bX rfl,ar];generalize u:put (a.alloc _) a.heap.size _ _=A;have W:ad [] a A:=by rw[<- u];exact((ad.refl _ _).alloc _).put (.inr (cy _)) _ _
 have z:hp A a.heap.size=some (.cells (bB (h.1,h.2.1,r.2.1.2.2.1,0,n)).toArray 32):=by rw[<- u];exact aq (by simp) _ _
 clear u;have e:=p.trans W;have s3:=p.size;have a5:=W.at f7 (by simp);have u:∀f,ad [] w f->ao (hp f g) (0+0+2)=some (bS m.c.2.2.1):=λf k=>(M.an k).c 2 dy;have X:∀f,ad [] w f->ao (hp f g) (0+0+1)=some (bS m.c.2.1):=λf k=>(M.an k).c 1 dy;simp only[zS,s8,fj,ag,u _ e];refine(c_mFits (V.an W) m.c.2.2.1 (bW x.cls n)).step ?_;have nF:∀{y},w.heap.size<=y->¬F y:=λhy=>I.notF hy;have a8:x.objs.length<=1000000:=cQ R.ol dy;have Y:ad [] a A:=W;have j:∀(want:eF) B,ad [] a B->hp B a.heap.size=some (.cells (bB want).toArray 32)->
   P44_0 (bU g) (.pointer (some ⟨w.heap.size+1,0,none⟩)) (.pointer (some ⟨b,i*7,none⟩)) (bS (bW x.cls n)) (bU a.heap.size) (.bool (ef x m.c.2.2.1 (bW x.cls n))) B λv f=>
    v= .bool (if r=(0,want,0,0)then true else false)/\∃E,jP f g (if r=(0,want,0,0)then{m with rgs:=m.rgs.set i (lJ m.c.2.2.1 (bW x.cls n) x want)}else m) E/\aO F E w f:=by
  intro want B c6 J;have O:=p.trans c6;exact l_gives0 (aO.bV O) (I.an O) P hK (a4 _ O) S a8 (c6.at f7 (by simp)) J (nF dy)
 cases d:ef x m.c.2.2.1 (bW x.cls n)with
 |true=>
  rw[d]at j;obtain⟨f1,f2,f3,f4⟩:=pV d;have ew:ou m.c.2.2.1 (bW x.cls n) n x h r.2.1.2.2.1=(h.1,h.2.1,iO x.chunks,x.off,n):=by rw[ou,d];rfl
  rw[d,ew]at gv;simp only[Bool.true_eq_false,false_and,if_false]at gv;have tl:∀B,ad [] a B->hp B a.heap.size=some (.cells (bB (h.1,h.2.1,iO x.chunks,x.off,n)).toArray 32)->
    P44_0 (bU g) (.pointer (some ⟨w.heap.size+1,0,none⟩)) (.pointer (some ⟨b,i*7,none⟩)) (bS (bW x.cls n)) (bU a.heap.size) (.bool true) B λv f=>v= .bool (gB m n h r).1/\∃E,jP f g (gB m n h r).2 E/\aO F E w f:=by
   intro B c6 J;have t:=j _ B c6 J;rw[gv];by_cases q:r=(0,(h.1,h.2.1,iO x.chunks,x.off,n),0,0)
   ·rw[bX q,bX q]at t;rw[bX q];exact t
   ·rw[bY q,bY q]at t;rw[bY q];exact t
  have D:ad [] A A.drew:=(ad.refl _ _).drew;have R4:=V.an W;have cn:=c_mNewest (R4.an D) (cQ R.cl dy);have a9:∀l L,hp l a.heap.size=some (.cells (bB (h.1,h.2.1,r.2.1.2.2.1,0,n)).toArray 32)->dE prog (Instr.storeAt 3 (.pointer (some ⟨a.heap.size,0+2,none⟩)) (bS (iO x.chunks))) l L=L (put l a.heap.size (bB (h.1,h.2.1,iO x.chunks,0,n)).toArray 32):=by
   intro l L C;rw[hC (o:=0+2) rfl rfl (by rw[C];rfl),C];rfl
  have b1:∀l L,hp l a.heap.size=some (.cells (bB (h.1,h.2.1,iO x.chunks,0,n)).toArray 32)->dE prog (Instr.storeAt 3 (.pointer (some ⟨a.heap.size,0+3,none⟩)) (bS x.off)) l L=L (put l a.heap.size (bB (h.1,h.2.1,iO x.chunks,x.off,n)).toArray 32):=by
   intro l L C;rw[hC (o:=0+3) rfl rfl (by rw[C];rfl),C];rfl
  simp only[zS,fa_99_2,ag,show ao (hp A b) (i*7+3)=_ from R4.c3];repeat' (with_reducible apply And.intro)
  all_goals
   refine cn.mono ?_;rintro _ l ⟨rfl,Z⟩;have s:=Y.trans (D.trans Z);have C:=Z.at (show hp A.drew a.heap.size=_ from z) (by simp);have R5:=(V.an s).c3;have h6:hp (put l a.heap.size (bB (h.1,h.2.1,iO x.chunks,0,n)).toArray 32) a.heap.size=_:=aq (az C) _ _;have a1:ad [] a (put l a.heap.size (bB (h.1,h.2.1,iO x.chunks,0,n)).toArray 32):=s.put (.inr (cy _)) _ _;have R6:=(V.an a1).c3;simp only[zS,ib,R5];rw[a9 _ _ C];simp only[zS,R6,b1 _ _ h6];exact tl _ (a1.put (.inr (cy _)) _ _) (aq (az h6) _ _)
 |false=>
  rw[d]at j;have ew:ou m.c.2.2.1 (bW x.cls n) n x h r.2.1.2.2.1=(h.1,h.2.1,r.2.1.2.2.1,0,n):=by rw[ou,d];rfl
  rw[d,ew]at gv;simp only[true_and]at gv;have b2:be prog .eql 35 (.tmp 51) (.tmp 52) (.agg (fI r).toArray) (.agg #[bS 6,bS 0,bS 0,bS 0,bS 0,bS 0,bS 0,bT 0])=some (.bool (decide (r=bL 6))):=be_rs r (bL 6);simp only[zS,eW a5,bd_35_0,b2];by_cases Q:r=bL 6
  ·rw[bX Q]at gv;simp only[cj Q,zS];rw[gv];exact⟨by first|rfl|trivial,F,I.an e,aO.bV e⟩
  rw[bY Q]at gv;have D:ad [] A A.drew:=(ad.refl _ _).drew;have e2:(bB (h.1,h.2.1,r.2.1.2.2.1,0,n)).toArray[0+2]? =some (bS r.2.1.2.2.1):=rfl;by_cases n0:r.2.1.2.2.1<0
  ·rw[bX (.inl n0)]at gv;simp only[cr Q,zS,z,e2,n0];rw[gv];exact⟨by first|rfl|trivial,F,I.an (e.trans D),aO.bV (e.trans D)⟩
  by_cases n1:m.c.2.1<=r.2.1.2.2.1
  ·rw[bX (.inr (.inl n1))]at gv;simp only[cr Q,zS,ag,z,e2,n0,s8,jK,X _ e,n1];rw[gv];exact⟨by first|rfl|trivial,F,I.an (e.trans D),aO.bV (e.trans D)⟩
  simp only[cr Q,zS,ag,z,e2,n0,s8,jK,X _ e,n1];refine(c_mTaken (M.an (e.trans D)) P dy r.2.1.2.2.1).mono ?_;rintro _ l ⟨rfl,Z⟩;have s:=Y.trans (D.trans Z);have C:=Z.at (show hp A.drew a.heap.size=_ from z) (by simp);cases ht:jC m r.2.1.2.2.1 with
  |true=>
   rw[bX (.inr (.inr ht))]at gv;simp only[zS];rw[gv];exact⟨by first|rfl|trivial,F,I.an (p.trans s),aO.bV (p.trans s)⟩
  |false=>
   rw[bY (by rintro(h1|h1|h1);exact n0 h1;exact n1 h1;rw[ht]at h1;cases h1)]at gv;simp only[zS];have t:=j _ l s C;rw[gv];by_cases q:r=(0,(h.1,h.2.1,r.2.1.2.2.1,0,n),0,0)
   ·rw[bX q,bX q]at t;rw[bX q];exact t
   ·rw[bY q,bY q]at t;rw[bY q];exact t
theorem c_mDo(I:jP w g m F)(D:Wf m K)(T:K+1<=1000000)(n:Int)(o:ez)(h:eF)(r:jo):
  aa prog 18 [bU g,bS n,.agg (dC o).toArray,.agg (bB h).toArray,.agg (fI r).toArray] w λv y=>v= .bool (lY m n o h r).1/\∃U,jP y g (lY m n o h r).2 U/\aO F U w y:=by
 apply F18_ok;simp only[F18,ak,au,ah];generalize j:((w.alloc (.cells (dC o).toArray 37)).alloc _).alloc _=w1;have E:ad [] w w1:=by rw[<- j];exact(((ad.refl _ _).alloc _).alloc _).alloc _
 have L:hp w1 w.heap.size=some (.cells (dC o).toArray 37):=by rw[<- j,af,ah,ah,bY dy,af,ah,bY dy,af,bX rfl]
 have V:hp w1 (w.heap.size+1)=some (.cells (bB h).toArray 32):=by rw[<- j,af,ah,ah,bY dy,af,ah,bX rfl]
 have Z:hp w1 (w.heap.size+1+1)=some (.cells (fI r).toArray 35):=by rw[<- j,af,ah,ah,bX rfl]
 clear j;have k:∀y,hp y w.heap.size=some (.cells (dC o).toArray 37)->fR prog 37 (bU w.heap.size) y=some (.agg (dC o).toArray):=λy j=>aR (t:=37) (c:=(dC o).toArray) tJ (show(Tryz.prog.info? 37).map (·.size)=some (dC o).toArray.size from nZ) j;obtain⟨_,_,_,M⟩:=I.rd;simp only[ac,k _ L];refine(c_mMay (M.an E) n o).mono ?_;rintro _ w2 ⟨rfl,G⟩;have l:=E.trans G;have b7:=G.at L (by simp);have b8:=G.at V (by simp);cases p:jQ m n o with
 |false=>
  simp only[zS];have e:lY m n o h r=(false,m):=by rw[lY,bX p]
  rw[e];exact⟨by first|rfl|trivial,F,I.an l,aO.bV l⟩
 |true=>
  obtain⟨d,O⟩:=may_hd p;simp only[zS,k _ b7,jh b8];refine(c_mMust (I.an l) D dy n o h).mono ?_;rintro _ H ⟨rfl,c3⟩;have z:=G.trans c3;have a1:=E.trans z;simp only[jk,jm,zS,sn];rw[hI (c:=(fI lV).toArray) (e:=35) (by rw[af,bX rfl];rfl) rfl];generalize s:put (H.alloc _) H.heap.size _ _=W;have c4:ad [] H W:=by rw[<- s];exact((ad.refl _ _).alloc _).put (.inr (cy _)) _ _
  have P:hp W H.heap.size=some (.cells (fI (dI m n o h).1).toArray 35):=by rw[<- s];exact aq (by simp) _ _
  clear s;have f:=z.trans c4;have a:=E.trans f;have Q:=f.at L (by simp);have X:=f.at V (by simp);have J:=f.at Z (by simp);have R:be prog .neq 35 (.tmp 27) (.tmp 28) (.agg (fI r).toArray) (.agg (fI (dI m n o h).1).toArray)=some (.bool (!decide (r=(dI m n o h).1))):=be_nrs r _;cases S:(dI m n o h).2 with
  |true=>
   simp only[zS,eW J,eW P,R];have b:lY m n o h r=if r=(dI m n o h).1 then(true,if r.1=0 then fF m n o h else m)else(false,m):=by rw[lY,bY (by rw[p];simp),bX S]
   by_cases A:r=(dI m n o h).1
   ·rw[bX A]at b;simp only[cj A,zS,mz,jy,J,rs_0];by_cases B:r.1=0
    ·rw[bX B]at b;have e0:(r.1==0)=true:=by rw[B];rfl
     have u:=must_fine p O (by rw[<- A];exact B);simp only[e0,zS,k _ Q,jh X];refine(c_mDoes (I.an a) D dy p O u).mono ?_;rintro _ Y ⟨rfl,F5,C,u5⟩;apply L18_0_ok;rw[b];exact⟨rfl,F5,C,u5.pre a⟩
    ·rw[bY B]at b;simp only[bn B,zS];apply L18_0_ok;rw[b];exact⟨rfl,F,I.an a,aO.bV a⟩
   ·rw[bY A]at b;simp only[cr A,zS];rw[b];exact⟨by first|rfl|trivial,F,I.an a,aO.bV a⟩
  |false=>
   obtain⟨u,hk⟩:=must_open p O S;have b:lY m n o h r=if o.1=1 then cx m o.2.2.2.1 r else gB m o.2.2.2.1 h r:=by rw[lY,bY (by rw[p];simp),bY (by rw[S];simp)]
   by_cases k1:o.1=1
   ·rw[bX k1]at b;have q:(o.1==1)=true:=by rw[k1];rfl
    simp only[zS,am,bm,ag,Q,aJ,mm,q,eW J];refine(c_mCreates (I.an a) D T o.2.2.2.1 r).mono ?_;rintro _ Y ⟨rfl,F5,C,u5⟩;rw[b];exact⟨rfl,F5,C,u5.pre a⟩
   ·rw[bY k1]at b;obtain⟨i,x,hf,_,_,_⟩:=pX u dy;simp only[zS,am,bm,ag,Q,aJ,mm,bn k1,eW J,jh X];refine(c_mGives (I.an a) D T o.2.2.2.1 h r hf).mono ?_;rintro _ Y ⟨rfl,F5,C,u5⟩;rw[b];exact⟨rfl,F5,C,u5.pre a⟩
end
section
variable{w:World}{g:Nat}{m:dv}{F:Fp}{K:Nat}
theorem kU(n a b:Int)(w:World):aa prog 61 [bS n,bS a,bS b] w λv d=>v= .bool (decide (a<=n/\n<=b))/\d=w:=by
 apply F61_ok;by_cases c:a<=n
 ·simp only[F61,zS,c,true_and,and_self]
 ·simp only[F61,zS,c,false_and,and_self]
def hY(c:cP):Bool:=decide (1<=c.1/\c.1<=64)&&(decide (1<=c.2.1/\c.2.1<=4096)&&(decide (8<=c.2.2.1/\c.2.2.1<=1024)&&(decide (c.2.2.1%8=0)&&(decide (1<=c.2.2.2.1/\c.2.2.2.1<=4096)&&(decide (0<=c.2.2.2.2.1/\c.2.2.2.2.1<=64)&&decide (1<=c.2.2.2.2.2/\c.2.2.2.2.2<=8))))))
theorem cf_0(c:cP):(dK c).toArray[0+0]? =some (bS c.1):=rfl
theorem cf_1(c:cP):(dK c).toArray[0+1]? =some (bS c.2.1):=rfl
theorem cf_2(c:cP):(dK c).toArray[0+2]? =some (bS c.2.2.1):=rfl
theorem cf_3(c:cP):(dK c).toArray[0+3]? =some (bS c.2.2.2.1):=rfl
theorem cf_4(c:cP):(dK c).toArray[0+4]? =some (bS c.2.2.2.2.1):=rfl
theorem cf_5(c:cP):(dK c).toArray[0+5]? =some (bS c.2.2.2.2.2):=rfl
theorem fW{c:cP}{g:Nat}{e:TypeId}(hb:hp w g=some (.cells (dK c).toArray e)):fR prog 25 (bU g) w=some (.agg (dK c).toArray):=aR (t:=25) (c:=(dK c).toArray) ag_25 (show(Tryz.prog.info? 25).map (·.size)=some (dK c).toArray.size from sz_25) hb
theorem c_layMay(c:cP)(w:World):aa prog 32 [.agg (dK c).toArray] w λv m=>v= .bool (hY c)/\ad [] w m:=by
 apply F32_ok;have b:hp (w.alloc (.cells (dK c).toArray 25)) w.heap.size=some (.cells (dK c).toArray 25):=by rw[af,bX rfl]
 have a:ad [] w (w.alloc (.cells (dK c).toArray 25)):=(ad.refl _ _).alloc _;simp only[F32,ak,au];generalize w.alloc (.cells (dK c).toArray 25)=w0 at*;simp only[zS,eS,ag,b,cf_0];refine(kU _ _ _ w0).step ?_;by_cases e:1<=c.1/\c.1<=64
 ·simp only[cj e,zS,jK,ag,b,cf_1];refine(kU _ _ _ w0).step ?_;by_cases f:1<=c.2.1/\c.2.1<=4096
  ·simp only[cj f,zS,fj,ag,b,cf_2];refine(kU _ _ _ w0).step ?_;by_cases d:8<=c.2.2.1/\c.2.2.1<=1024
   ·have l:c.2.2.1.tmod 8=c.2.2.1%8:=Int.tmod_eq_emod_of_nonneg dy;by_cases g:c.2.2.1%8=0
    ·have n:(c.2.2.1%8==0)=true:=by rw[g];rfl
     simp only[cj d,zS,iJ,ag,b,cf_2,cf_3,kF (show(8:Int)≠0 by decide),l,n];refine(kU _ _ _ w0).step ?_;by_cases i:1<=c.2.2.2.1/\c.2.2.2.1<=4096
     ·simp only[cj i,zS,fa_25_4,ag,b,cf_4];refine(kU _ _ _ w0).step ?_;by_cases j:0<=c.2.2.2.2.1/\c.2.2.2.2.1<=64
      ·simp only[cj j,zS,fa_25_5,ag,b,cf_5];refine(kU _ _ _ w0).step ?_;by_cases k:1<=c.2.2.2.2.2/\c.2.2.2.2.2<=8
       ·simp only[cj k];exact⟨by simp[hY,e,f,d,g,i,j,k],a⟩
       ·simp only[cr k];exact⟨by rw[hY,cr k];simp,a⟩
      ·simp only[cr j,zS];exact⟨by rw[hY,cr j];simp,a⟩
     ·simp only[cr i,zS];exact⟨by rw[hY,cr i];simp,a⟩
    ·simp only[cj d,zS,ag,b,cf_2,kF (show(8:Int)≠0 by decide),l,bn g];exact⟨by rw[hY,cr g];simp,a⟩
   ·simp only[cr d,zS];exact⟨by rw[hY,cr d];simp,a⟩
  ·simp only[cr f,zS];exact⟨by rw[hY,cr f];simp,a⟩
 ·simp only[cr e,zS];exact⟨by rw[hY,cr e];simp,a⟩
def oy(c:cP)(loose:Bool):dv:=⟨c,loose,List.replicate c.2.2.2.1.toNat (0,0), [],List.replicate c.1.toNat ⟨0, []⟩⟩
theorem may_cf{c:cP}(h:hY c=true):(1<=c.1/\c.1<=64)/\(1<=c.2.1/\c.2.1<=4096)/\(8<=c.2.2.1/\c.2.2.1<=1024)/\(1<=c.2.2.2.1/\c.2.2.2.1<=4096):=by
 simp only[hY,de,decide_eq_true_eq]at h;exact⟨h.1,h.2.1,h.2.2.1,h.2.2.2.2.1⟩
theorem wf_new{c:cP}(h:hY c=true)(l:Bool):Wf (oy c l) 0:=by
 obtain⟨f,g,a,i⟩:=may_cf h;refine⟨by show 1<=c.2.2.1;omega,a.2,by simp only[oy,dt];omega,λp hp=>?_,λd b=>?_,cy _,λr e=>by cases e⟩
 ·rw[List.eq_of_mem_replicate hp];exact⟨dj _,dz⟩
 ·rw[List.eq_of_mem_replicate b];exact⟨dj _,dz,cX _⟩
theorem made_flat{zs:List Value}{z:Nat}(a:zs.length=z)(d:0<z)(n:Nat):madeCells zs.toArray (n*z)=((List.replicate n ()).flatMap λ_=>zs).toArray:=by
 apply Array.ext_getElem?;intro k;rcases cZ k (n*z)with hk|hk
 ·have i:k/z<n:=by rw[Nat.div_lt_iff_lt_mul d];exact hk
  have g:=Nat.mod_lt k d;have b:k=k/z*z+k%z:=by rw[Nat.mul_comm];exact(Nat.div_add_mod k z).symm
  have e:=ba (f:=λ_:Unit=>zs) (λ_=>a) (List.replicate n ()) (k/z) () (by simp[i]) (k%z) g;rw[<- b]at e;have c:(((List.replicate n ()).flatMap λ_=>zs).toArray)[k]? =zs[k%z]? :=by rw[List.getElem?_toArray,e]
  rw[c,bZ dy];simp only[madeCells,Array.getElem?_map,Array.getElem?_range,hk,if_true,Option.map_some,List.size_toArray,a];rw[getElem!_pos _ _ (by simp[a];exact g)];simp
 ·have c:((List.replicate n ()).flatMap λ_=>zs).length=n*z:=by rw[ja (z:=z) (λ_=>a)];simp
  rw[Array.getElem?_eq_none (by simp[madeCells];omega),Array.getElem?_eq_none (by rw[List.size_toArray,c];exact hk)]
theorem row_new{e:TypeId}(n:Nat)(d:n<=maxLen)(a b:Value):(w.alloc (.cells ((List.replicate n ()).flatMap λ_=> [a,b]).toArray e)).ownsRow 0 e 2 (.slice (some ⟨w.heap.size,0,none⟩) n n) n ((List.replicate n ()).flatMap λ_=> [a,b]):=by
 have c:((List.replicate n ()).flatMap λ_=> [a,b]).length=n*2:=by rw[ja (z:=2) (λ_=>rfl)];simp
 exact⟨c,.inr ⟨w.heap.size,n,_,rfl,cX _,heap_alloc_new w _,cy _,d,by rw[List.size_toArray];exact c,by simp[List.take_of_length_le (show((List.replicate n ()).flatMap λ_=> [a,b]).length<=n*2 by rw[c];exact cy _)]⟩⟩
theorem own_of_row{n:Nat}:(λb=>(Value.slice (some ⟨w.heap.size,0,none⟩) n n).ownBlock=some b)=(λb=>b=w.heap.size):=by
 funext b;simp[Value.ownBlock,eq_comm]
theorem slots_new(n:Nat)(c:n<=maxLen):jd (List.replicate n (0,0)) (w.alloc (.cells ((List.replicate n ()).flatMap λ_=> [Value.int .i64 0,Value.int .i64 0]).toArray 142)) (λb=>b=w.heap.size) (.slice (some ⟨w.heap.size,0,none⟩) n n):=by
 have a:=gW (row_new (w:=w) (e:=142) n c (bS 0) (bS 0));rw[own_of_row]at a;have e:(List.replicate n ((0:Int),(0:Int))).flatMap gD=(List.replicate n ()).flatMap λ_=> [Value.int .i64 0,Value.int .i64 0]:=by
  induction n with
  |zero=>rfl
  |succ n d=>rw[List.replicate_succ,List.replicate_succ,dx,dx,d dy (own_of_row▸gW (row_new n dy _ _))];rfl
 rw[jd,dt,e];exact a
theorem hands_new(n:Nat)(g:n<=maxLen):ij (List.replicate n ⟨0, []⟩) (w.alloc (.cells ((List.replicate n ()).flatMap λ_=> [Value.int .i64 0,Value.slice none 0 0]).toArray 136)) (λb=>b=w.heap.size) (.slice (some ⟨w.heap.size,0,none⟩) n n):=by
 have h:=row_new (w:=w) (e:=136) n g (bS 0) (.slice none 0 0);refine⟨_,λ_=>ck,by rw[dt];exact h,⟨?_,λk P v a hv=>?_,λ_ _ _ _ _ b hb _=>hb⟩,λb ⟨_,_,hb⟩=>hb.elim,λb=>⟨λhb=> .inl (by rw[hb];rfl),λhb=>?_⟩⟩
 ·rw[ja (z:=2) tf,ja (z:=2) (λ_=>rfl)];simp
 ·have i:=(ce.1 a).1;rw[ja (z:=2) tf,dt]at i;have d:k/2<n:=dy;have c:k=k/2*2+k%2:=dy;rw[c]at a hv;rw[ba tf _ (k/2) ⟨0, []⟩ (by simp[d]) (k%2) dy]at a;rw[ba (z:=2) (f:=λ_:Unit=> [Value.int .i64 0,Value.slice none 0 0]) (λ_=>rfl) _ (k/2) () (by simp[d]) (k%2) dy]at hv;have h2:k%2=0\/k%2=1:=dy;rcases h2 with h2|h2<;>rw[h2]at a hv<;>cases a<;>cases hv
  ·exact⟨rfl,λ_ h=>h⟩
  ·exact aL.nil
 ·rcases hb with hb|⟨_,_,hb⟩
  ·simp[Value.ownBlock]at hb;exact hb.symm
  ·exact hb.elim
theorem model_parts{c:cP}{S R H:List Value}{m:dv}{n rv hv:Value}{f Fr Fh:Fp}(x:m.c=c)(y:jd m.slots w f n)(z:km m.rgs w Fr rv)(A:ij m.hands w Fh hv)(o:oj f Fr)(p:oj f Fh)(q:oj Fr Fh):
  fu w (mdT m) (dK c++ [.bool m.loose,n,rv,hv]) (λk=>if k=7 then f else if k=8 then Fr else if k=9 then Fh else ck):=by
 subst x;refine⟨rfl,λk P v r g=>?_,λj k E s B b C D=>?_⟩
 ·have s:=(ce.1 r).1;have i:(mdT m).length=10:=rfl;rw[i]at s;have l:k=0\/k=1\/k=2\/k=3\/k=4\/k=5\/k=6\/k=7\/k=8\/k=9:=dy;rcases l with rfl|rfl|rfl|rfl|rfl|rfl|rfl|rfl|rfl|rfl<;>cases r<;>cases g
  ·exact⟨rfl,λ_ h=>h⟩
  ·exact⟨rfl,λ_ h=>h⟩
  ·exact⟨rfl,λ_ h=>h⟩
  ·exact⟨rfl,λ_ h=>h⟩
  ·exact⟨rfl,λ_ h=>h⟩
  ·exact⟨rfl,λ_ h=>h⟩
  ·exact⟨rfl,λ_ h=>h⟩
  ·exact y
  ·exact z
  ·exact A
 ·have e:∀k,(if k=7 then f else if k=8 then Fr else if k=9 then Fh else ck) b->(k=7/\f b)\/(k=8/\Fr b)\/(k=9/\Fh b):=by
   intro k h;split at h
   ·exact .inl ⟨by assumption,h⟩
   split at h
   ·exact .inr (.inl ⟨by assumption,h⟩)
   split at h
   ·exact .inr (.inr ⟨by assumption,h⟩)
   ·exact h.elim
  rcases e j C with⟨t,a⟩|⟨t,a⟩|⟨t,a⟩<;>rcases e k D with⟨u,d⟩|⟨u,d⟩|⟨u,d⟩
  ·omega
  ·exact o b a d
  ·exact p b a d
  ·exact o b d a
  ·omega
  ·exact q b a d
  ·exact p b d a
  ·exact q b d a
  ·omega
end
section
variable{w:World}{g:Nat}{m:dv}{F:Fp}{K:Nat}
def Made(w:World)(c:cP)(m:dv)(v:Value)(a:World):Prop:=ad [] w a/\((hY c=false/\v= .tuple #[.pointer none,bS 1])\/(hY c=true/\∃g F,v= .tuple #[bU g,bS 0]/\jP a g m F/\∀k,F k->w.heap.size<=k))
theorem c_mNew(c:cP)(w:World):aa prog 35 [.agg (dK c).toArray] w λv X=>Made w c (oy c false) v X:=by
 apply F35_ok;have O:hp (w.alloc (.cells (dK c).toArray 25)) w.heap.size=some (.cells (dK c).toArray 25):=by rw[af,bX rfl]
 have Y:ad [] w (w.alloc (.cells (dK c).toArray 25)):=(ad.refl _ _).alloc _;simp only[F35,ak,au];generalize w.alloc (.cells (dK c).toArray 25)=w0 at*;simp only[fW O,ac];refine(c_layMay c w0).mono ?_;rintro _ w1 ⟨rfl,k1⟩;have Q:=Y.trans k1;have T:=k1.at O (by simp);cases t:hY c with
 |false=>
  simp only[zS];exact⟨Q,.inl ⟨t,by first|rfl|trivial⟩⟩
 |true=>
  obtain⟨o,U,h3,h4⟩:=may_cf t;have u:hp w1.drew w.heap.size=some (.cells (dK c).toArray 25):=T;have x:=Q.drew;obtain⟨is,y,z,p,A⟩:=inf_142;obtain⟨Z,B,C,q,D⟩:=inf_136;have e3:(dK c).toArray[0+3]? =some (bS ((c.2.2.2.1.toNat:Nat):Int)):=by rw[cf_3];congr;omega
  have e0:(dK c).toArray[0+0]? =some (bS ((c.1.toNat:Nat):Int)):=by rw[cf_0];congr;omega
  have nm:oy c false=⟨c,false,List.replicate c.2.2.2.1.toNat (0,0), [],List.replicate c.1.toNat ⟨0, []⟩⟩:=rfl;have l1:c.2.2.2.1.toNat<=4096:=dy;have l2:c.1.toNat<=64:=dy;generalize c.2.2.2.1.toNat=d at*;generalize c.1.toNat=e at*;have E:madeCells (Value.agg #[bS 0,bS 0]).cells (d*is.size)=((List.replicate d ()).flatMap λ_=> [Value.int .i64 0,Value.int .i64 0]).toArray:=by rw[p];exact made_flat (zs:= [Value.int .i64 0,Value.int .i64 0]) rfl dz d
  have F:madeCells (Value.agg #[bS 0,.slice none 0 0]).cells (e*Z.size)=((List.replicate e ()).flatMap λ_=> [Value.int .i64 0,Value.slice none 0 0]).toArray:=by rw[q];exact made_flat (zs:= [Value.int .i64 0,Value.slice none 0 0]) rfl dz e
  have fin:∀(w2:World) (s Fh:Fp) (sb hb:Nat),ad [] w w2->jd (List.replicate d (0,0)) w2 s (.slice (some ⟨sb,0,none⟩) d d)->ij (List.replicate e ⟨0, []⟩) w2 Fh (.slice (some ⟨hb,0,none⟩) e e)->oj s Fh->(∀ k,s k->w.heap.size<=k)->(∀ k,Fh k->w.heap.size<=k)->
    Made w c (oy c false) (.tuple #[bU w2.heap.size,bS 0]) (w2.alloc (.cells (dK c++ [Value.bool false,Value.slice (some ⟨sb,0,none⟩) d d,Value.slice none 0 0,Value.slice (some ⟨hb,0,none⟩) e e]).toArray 90)):=by
   intro w2 s Fh sb hb V hs hh hd G I;have J:=model_parts (S:= []) (R:= []) (H:= []) (m:=oy c false) (c:=c) (rv:= .slice none 0 0) (Fr:=ck) rfl (by rw[nm];exact hs) (by rw[nm];exact aL.nil) (by rw[nm];exact hh) (λ_ _ h=>h) hd (λ_ h _=>h);refine⟨V.alloc _,.inr ⟨t,w2.heap.size,_,rfl,dV.new J (gF _),λk f=>?_⟩⟩;rcases f with f|⟨j,_,f⟩
   ·rw[f];exact V.size
   ·split at f
    ·exact G k f
    split at f
    ·exact f.elim
    split at f
    ·exact I k f
    ·exact f.elim
  have W:maxLen=maxLen:=rfl;have l:d<=maxLen/\e<=maxLen:=by unfold maxLen;omega
  simp only[zS,iJ,eS,ag,fW u,T,e3,e0,jJ (P:=prog) (kl:= .i64) (kc:= .i64) (n:=d) Tryz.underlying86 y z (by rw[p];omega) (by rw[A];omega) dy,jJ (P:=prog) (kl:= .i64) (kc:= .i64) (n:=e) Tryz.underlying88 B C (by rw[q];omega) (by rw[D];omega) dy,E,F];have K:∀a b,ai prog (Instr.build 90 #[(0,.agg (dK c).toArray),(2,.slice (some ⟨a,0,none⟩) d d),(4,.slice (some ⟨b,0,none⟩) e e)])=some (.agg (dK c++ [Value.bool false,Value.slice (some ⟨a,0,none⟩) d d,Value.slice none 0 0,Value.slice (some ⟨b,0,none⟩) e e]).toArray):=λa b=>bd_90_0_2_4;simp only[K,ac,au];have sz:w.heap.size<=w1.drew.heap.size:=x.size;constructor
  ·have L:=slots_new (w:=w1.drew) d l.1;generalize g:w1.drew.alloc (.cells ((List.replicate d ()).flatMap λ_=> [Value.int .i64 0,Value.int .i64 0]).toArray 142)=i at*;have M:ad [] w1.drew i:=by rw[<- g];exact(ad.refl _ _).alloc _
   have sA:i.heap.size=w1.drew.heap.size+1:=by rw[<- g,ah]
   have o:=hands_new (w:=i) e l.2;have r:ad [] i (i.alloc (.cells ((List.replicate e ()).flatMap λ_=> [Value.int .i64 0,Value.slice none 0 0]).toArray 136)):=(ad.refl _ _).alloc _;exact fin _ _ _ _ _ ((x.trans M).trans r) ((oq _).frame L (aW.bV r ck) λ_ _ h=>h) o (λk o U=>dy) (λk f=>dy) (λk f=>dy)
  ·have L:=hands_new (w:=w1.drew) e l.2;generalize g:w1.drew.alloc (.cells ((List.replicate e ()).flatMap λ_=> [Value.int .i64 0,Value.slice none 0 0]).toArray 136)=i at*;have M:ad [] w1.drew i:=by rw[<- g];exact(ad.refl _ _).alloc _
   have sA:i.heap.size=w1.drew.heap.size+1:=by rw[<- g,ah]
   have o:=slots_new (w:=i) d l.1;have r:ad [] i (i.alloc (.cells ((List.replicate d ()).flatMap λ_=> [Value.int .i64 0,Value.int .i64 0]).toArray 142)):=(ad.refl _ _).alloc _;exact fin _ _ _ _ _ ((x.trans M).trans r) o ((qE _).frame L (aW.bV r ck) λ_ _ h=>h) (λk o U=>dy) (λk f=>dy) (λk f=>dy)
theorem c_mLoose(c:cP)(w:World):aa prog 14 [.agg (dK c).toArray] w λv m=>Made w c (oy c true) v m:=by
 apply F14_ok;have n:hp (w.alloc (.cells (dK c).toArray 25)) w.heap.size=some (.cells (dK c).toArray 25):=by rw[af,bX rfl]
 have p:ad [] w (w.alloc (.cells (dK c).toArray 25)):=(ad.refl _ _).alloc _;have u:(w.alloc (.cells (dK c).toArray 25)).heap.size=w.heap.size+1:=ah _ _;simp only[F14,ak,au];generalize w.alloc (.cells (dK c).toArray 25)=w0 at*;simp only[fW n,ac];refine(c_mNew c w0).mono ?_;rintro v w1 ⟨k1,hv⟩;have a:=p.trans k1;rcases hv with⟨i,rfl⟩|⟨i,g,F,rfl,I,j⟩
 ·have e:((1:Int)==0)=false:=rfl;simp only[jk,jm,zS,e];apply L14_0_ok;exact⟨a,.inl ⟨i,rfl⟩⟩
 ·obtain⟨v,x,y,q,l,r,hv,_,d⟩:=dV.cell I (gF _) (k:=6) (P:=hN (.bool false)) rfl;obtain⟨ok,s,t,b⟩:=d w1 ck (hN (.bool true)) (.bool true) (aO.none hv.2 w1) (fN ⟨rfl,rfl⟩) ⟨rfl,λ_ h=>h⟩;have e:((0:Int)==0)=true:=rfl;simp only[jk,jm,zS,fa_90_1];rw[st_4 (o:=0+6) rfl rfl ok];apply L14_0_ok;refine⟨⟨b.aw.os.trans a.os,b.aw.tape.trans a.tape,b.aw.output.trans a.output,cQ a.size b.aw.size,λk f _=>?_⟩,.inr ⟨i,g,s,rfl,t,λk f=>?_⟩⟩
  ·rw[b.aw.block k (cY f a.size) λh=>by have:=j k h;omega];exact a.block k f (by simp)
  ·have:=a.size;rcases b.sub k f with h|h
   ·have:=j k h;omega
   ·omega
end
end Go.Proofs.YtnpflajdbchghaaGreat
namespace Go.Proofs.YtnpflajdbchghaaGreat.Ev
open Tryz(prog)
open Go Go.RowKit
theorem lK{w a:World}(c:ad [] w a){b o:Nat}{v:Value}(h:ao (hp w b) o=some v):ao (hp a b) o=some v:=by
 have:hp a b=hp w b:=c.block b (by
  rcases cZ b w.heap.size with h1|h1
  ·exact h1
  ·have d:hp w b=none:=by simp[hp];omega
   rw[d]at h;cases h) (by simp)
 rw[this];exact h
theorem dV.row{e:TypeId}{g:Nat}{s:List Th}{w:World}{F:Fp}(I:dV e g s w F)(L:∀P∈s,dO P){k:Nat}{e':TypeId}{z n:Nat}{Qs:List Th}(M:s[k]? =some (aL e' z n Qs))(O:∀Q∈Qs,dO Q){j:Nat}{P:Th}(R:Qs[j]? =some P):
  ∃(b c:Nat) (v:Value) (i:Fp),ao (hp w g) k=some (.slice (some ⟨b,0,none⟩) n c)/\b≠g/\F b/\(∀ x,i x->F x)/\¬i b/\¬i g/\ao (hp w b) j=some v/\P w i v/\
   (∀ w1 l P',aO i l w w1->P' w1 l v->∃m,dV e g (s.set k (aL e' z n (Qs.set j P'))) w1 m/\aO F m w w1)/\
   (∀ w1 l P' v',aO i l w w1->dO P'->P' w1 l v'->mX (hp w1 b) (j+1)=true/\v'.cells= #[v']/\v'.oneCell'=true/\hp w1 g=hp w g/\
    ∃m,dV e g (s.set k (aL e' z n (Qs.set j P'))) (put w1 b ((dG (hp w1 b)).setIfInBounds j v') (dH (hp w1 b))) m/\aO F m w (put w1 b ((dG (hp w1 b)).setIfInBounds j v') (dH (hp w1 b)))):=by
 obtain⟨rv,Fr,S,t,p,r,T,q,_⟩:=dV.cell I L M;obtain⟨b,c,v,i,D,y,E,a,A,hv,U,V⟩:=aL.cell T O R;subst D;have G:b≠g:=λe=>t (by rw[<- e];exact y);have B:¬i g:=λh=>t (a g h);refine⟨b,c,v,i,r,G,p b y,λx D=>p x (a x D),E,B,A,hv,λw1 l P' u o=>?_,λw1 l P' v' u C o=>?_⟩
 ·obtain⟨m,d,f⟩:=U w1 l P' u o;obtain⟨H,J,K⟩:=q _ m _ f d;exact⟨H,J,K⟩
 ·obtain⟨ok,m,d,f⟩:=V w1 l P' v' u C o;obtain⟨H,J,K⟩:=q _ m _ f d;obtain⟨W,X⟩:=C.one o;refine⟨ok,W,X,?_,H,J,K⟩;exact u.aw.block g (by
   rcases cZ g w.heap.size with h|h
   ·exact h
   ·have Y:hp w g=none:=by simp[hp];omega
    rw[Y]at r;cases r) B
theorem dV.repl{e:TypeId}{g:Nat}{l:List Th}{w:World}{F:Fp}(I:dV e g l w F)(p:∀P∈l,dO P){k:Nat}{P:Th}(q:l[k]? =some P):
  ∃(v:Value) (b:Fp),(∀ x,b x->F x)/\¬b g/\ao (hp w g) k=some v/\P w b v/\
   ∀w1 m P' v',aO b m w w1->dO P'->P' w1 m v'->mX (hp w1 g) (k+1)=true/\v'.cells= #[v']/\v'.oneCell'=true/\hp w1 g=hp w g/\
    ∃n,dV e g (l.set k P') (put w1 g ((dG (hp w1 g)).setIfInBounds k v') (dH (hp w1 g))) n/\aO F n w (put w1 g ((dG (hp w1 g)).setIfInBounds k v') (dH (hp w1 g))):=by
 obtain⟨v,b,r,c,d,a,hv,_,f⟩:=dV.cell I p q;refine⟨v,b,d,c,a,hv,λw1 m P' v' u i j=>?_⟩;obtain⟨ok,n,s,o⟩:=f w1 m P' v' u i j;obtain⟨t,y⟩:=i.one j;refine⟨ok,t,y,u.aw.block g (by
  rcases cZ g w.heap.size with h|h
  ·exact h
  ·have o:hp w g=none:=by simp[hp];omega
   rw[o]at a;cases a) c,n,s,o⟩
end Go.Proofs.YtnpflajdbchghaaGreat.Ev
namespace Go.Proofs.YtnpflajdbchghaaGreat
open Tryz(prog)
open Go Ev Go.RowKit
structure tL where
 c:cP
 loose:Bool
 state:List Int
 gen:List Int
 rgs:List (eO×Bool)
 depth:List Int
 holds:List (List iD)
def nq(L:List iD):Th:=aL 256 2 L.length ((L.flatMap gD).map hN)
def rrT(p:eO×Bool):List Th:= [iT p.1.nm.1,iT p.1.nm.2,iT p.1.cls,iT p.1.off,hN (.bool p.2),eP p.1.chunks,eG p.1.words,lH p.1.objs]
def qI(L:List (eO×Bool)):Th:=aL 250 8 L.length (L.flatMap rrT)
def mr(L:List (List iD)):Th:=aL 161 1 L.length (L.map nq)
def rfT(x:tL):List Th:=(dK x.c).map hN++ [hN (.bool x.loose),eP x.state,eP x.gen,qI x.rgs,eP x.depth,mr x.holds]
def iR(w:World)(g:Nat)(x:tL)(F:Fp):Prop:=dV 182 g (rfT x) w F
def aP(m:dv):tL:=⟨m.c,m.loose,m.slots.map (·.1),m.slots.map (·.2),m.rgs.map λr=>(r,fO m r.nm),m.hands.map (·.depth),m.hands.map (·.holds)⟩
theorem good_keys(L:List iD):dO (nq L):=bK (fZ (qD L))
theorem qJ(p:eO×Bool):∀P∈rrT p,dO P:=λP a=>by
 simp only[rrT,dg,dk,or_false]at a;rcases a with rfl|rfl|rfl|rfl|rfl|rfl|rfl|rfl
 ·exact bH _ _
 ·exact bH _ _
 ·exact bH _ _
 ·exact bH _ _
 ·exact fN ⟨rfl,rfl⟩
 ·exact bq _
 ·exact fJ _
 ·exact gf _
theorem im(L:List (eO×Bool)):∀P∈L.flatMap rrT,dO P:=λP a=>by
 obtain⟨r,_,b⟩:=List.mem_flatMap.1 a;exact qJ r P b
theorem sD(L:List (eO×Bool)):dO (qI L):=bK (im L)
theorem oX(L:List (List iD)):∀P∈L.map nq,dO P:=λP a=>by
 obtain⟨l,_,rfl⟩:=List.mem_map.1 a;exact good_keys l
theorem qK(L:List (List iD)):dO (mr L):=bK (oX L)
theorem fm(x:tL):∀P∈rfT x,dO P:=λP b=>by
 rcases List.mem_append.1 b with h|h
 ·refine fZ (λu a=>?_) P h;simp only[dK,dg,dk,or_false]at a;rcases a with rfl|rfl|rfl|rfl|rfl|rfl<;>exact⟨_,_,rfl⟩
 ·simp only[dg,dk,or_false]at h;rcases h with rfl|rfl|rfl|rfl|rfl|rfl
  ·exact fN ⟨rfl,rfl⟩
  ·exact bq _
  ·exact bq _
  ·exact sD _
  ·exact bq _
  ·exact qK _
theorem nI(p:eO×Bool):(rrT p).length=8:=rfl
theorem iR.an{w a:World}{g:Nat}{x:tL}{F:Fp}(h:iR w g x F)(b:ad [] w a):iR a g x F:=dV.frame h (fm x) (aW.bV b ck) λ_ _ h=>h
structure RfR(w:World)(g:Nat)(x:tL)(s gn r d h:Value):Prop where
 c:∀k,k<6->ao (hp w g) (0+0+k)=(dK x.c)[k]?
 l:ao (hp w g) (0+6)=some (.bool x.loose)
 sl:ao (hp w g) (0+7)=some s
 gl:ao (hp w g) (0+8)=some gn
 rl:ao (hp w g) (0+9)=some r
 dl:ao (hp w g) (0+10)=some d
 hl:ao (hp w g) (0+11)=some h
 sT:∃F,eP x.state w F s
 gT:∃F,eP x.gen w F gn
 rT:∃F,qI x.rgs w F r
 dT:∃F,eP x.depth w F d
 hT:∃F,mr x.holds w F h
theorem iR.rd{w:World}{g:Nat}{x:tL}{F:Fp}(h:iR w g x F):∃s gn r d a,RfR w g x s gn r d a:=by
 obtain⟨f,_,_,_,_,i,j,_⟩:=dV.cell h (fm x) (k:=7) (P:=eP x.state) rfl;obtain⟨gv,_,_,_,_,l,m,_⟩:=dV.cell h (fm x) (k:=8) (P:=eP x.gen) rfl;obtain⟨rv,_,_,_,_,n,o,_⟩:=dV.cell h (fm x) (k:=9) (P:=qI x.rgs) rfl;obtain⟨p,_,_,_,_,q,t,_⟩:=dV.cell h (fm x) (k:=10) (P:=eP x.depth) rfl;obtain⟨hv,_,_,_,_,a,v,_⟩:=dV.cell h (fm x) (k:=11) (P:=mr x.holds) rfl;obtain⟨lv,_,_,_,_,y,z,_⟩:=dV.cell h (fm x) (k:=6) (P:=hN (.bool x.loose)) rfl;refine⟨f,gv,rv,p,hv,λk b=>?_,y.trans (by rw[z.1]),i,l,n,q,a,⟨_,j⟩,⟨_,m⟩,⟨_,o⟩,⟨_,t⟩,⟨_,v⟩⟩;obtain⟨u,e⟩:∃u,(dK x.c)[k]? =some u:=⟨_,bZ (by simpa [dK]using b)⟩
 have A:(rfT x)[k]? =some (hN u):=by
  rw[rfT,List.getElem?_append_left (by simpa [dK]using b),cM,e];rfl
 obtain⟨D,_,_,_,_,B,C,_⟩:=dV.cell h (fm x) A;rw[show 0+0+k=k by omega,B,C.1,e]
structure RrR(w:World)(b o:Nat)(p:eO×Bool)(cv wv ov:Value):Prop where
 c0:ao (hp w b) (o+0)=some (bS p.1.nm.1)
 c1:ao (hp w b) (o+1)=some (bS p.1.nm.2)
 c2:ao (hp w b) (o+2)=some (bS p.1.cls)
 c3:ao (hp w b) (o+3)=some (bS p.1.off)
 c4:ao (hp w b) (o+4)=some (.bool p.2)
 c5:ao (hp w b) (o+5)=some cv
 c6:ao (hp w b) (o+6)=some wv
 c7:ao (hp w b) (o+7)=some ov
 cT:∃F,eP p.1.chunks w F cv
 wT:∃F,eG p.1.words w F wv
 oT:∃F,lH p.1.objs w F ov
theorem tM{w:World}{L:List (eO×Bool)}{F:Fp}{x:Value}(h:qI L w F x){i:Nat}{r:eO×Bool}(j:L[i]? =some r):∃b c,x= .slice (some ⟨b,0,none⟩) L.length c/\∃l wv ov,RrR w b (i*8) r l wv ov:=by
 have get:∀k,k<8->(L.flatMap rrT)[i*8+k]? =(rrT r)[k]? :=λk m=>ba nI L i r j k m;obtain⟨b,c,P,F0,n,_,_,_,a,o,_⟩:=aL.cell h (im L) (get 0 dy);obtain⟨Q,R,S,T,p,_,_,_,d,q,_⟩:=aL.cell h (im L) (get 1 dy);obtain⟨U,V,v2,W,s,_,_,_,e,t,_⟩:=aL.cell h (im L) (get 2 dy);obtain⟨X,Y,Z,F3,u,_,_,_,f,v,_⟩:=aL.cell h (im L) (get 3 dy);obtain⟨b4,c4,v4,F4,y,_,_,_,g,z,_⟩:=aL.cell h (im L) (get 4 dy);obtain⟨b5,c5,A,F5,B,_,_,_,C,D,_⟩:=aL.cell h (im L) (get 5 dy);obtain⟨b6,c6,E,F6,G,_,_,_,H,I,_⟩:=aL.cell h (im L) (get 6 dy);obtain⟨b7,c7,J,F7,K,_,_,_,M,O,_⟩:=aL.cell h (im L) (get 7 dy);subst n;cases p;cases s;cases u;cases y;cases B;cases G;cases K;rw[o.1]at a;rw[q.1]at d;rw[t.1]at e;rw[v.1]at f;rw[z.1]at g;exact⟨b,c,rfl,A,E,J,a,d,e,f,g,C,H,M,⟨F5,D⟩,⟨F6,I⟩,⟨F7,O⟩⟩
theorem RrR.an{w c:World}{b o:Nat}{p:eO×Bool}{d wv ov:Value}(k:RrR w b o p d wv ov)(a:ad [] w c):RrR c b o p d wv ov:=by
 obtain⟨F,e⟩:=k.cT;obtain⟨G,f⟩:=k.wT;obtain⟨H,g⟩:=k.oT;exact⟨bu a k.c0,bu a k.c1,bu a k.c2,bu a k.c3,bu a k.c4,bu a k.c5,bu a k.c6,bu a k.c7,
  ⟨F,(bq _).frame e (aW.bV a ck) λ_ _ h=>h⟩,⟨G,(fJ _).frame f (aW.bV a ck) λ_ _ h=>h⟩,⟨H,(gf _).frame g (aW.bV a ck) λ_ _ h=>h⟩⟩
theorem RfR.an{w a:World}{g:Nat}{x:tL}{s gn r d h:Value}(k:RfR w g x s gn r d h)(b:ad [] w a):RfR a g x s gn r d h:=by
 have e:hp a g=hp w g:=b.block g (by
  rcases cZ g w.heap.size with h1|h1
  ·exact h1
  ·have j:hp w g=none:=by simp[hp];omega
   have:=k.l;rw[j]at this;cases this) (by simp)
 have f:∀{L v},(∃ F,eP L w F v)->∃F,eP L a F v:=fun⟨F,m⟩=>⟨F,(bq _).frame m (aW.bV b ck) λ_ _ h=>h⟩
 obtain⟨G,n⟩:=k.rT;obtain⟨H,o⟩:=k.hT;exact⟨λi p=>by rw[e];exact k.c i p,by rw[e];exact k.l,by rw[e];exact k.sl,by rw[e];exact k.gl,by rw[e];exact k.rl,by rw[e];exact k.dl,by rw[e];exact k.hl,f k.sT,f k.gT,
  ⟨G,(sD _).frame n (aW.bV b ck) λ_ _ h=>h⟩,f k.dT,⟨H,(qK _).frame o (aW.bV b ck) λ_ _ h=>h⟩⟩
theorem oY(n a b:Int)(w:World):aa prog 89 [bS n,bS a,bS b] w λv d=>v= .bool (decide (a<=n/\n<=b))/\d=w:=by
 apply F89_ok;by_cases c:a<=n
 ·simp only[F89,zS,c,true_and,and_self]
 ·simp only[F89,zS,c,false_and,and_self]
theorem c_rRight(a n:Int)(w:World):aa prog 209 [bS a,bS n] w λv c=>v= .bool (iN a n)/\c=w:=by
 apply F209_ok;simp only[F209];refine(oY a 1 1024 w).step ?_;by_cases b:1<=a/\a<=1024
 ·simp only[cj b,zS];refine(oY n 1 a w).step ?_;simp only[];exact⟨by simp[iN,b.1,b.2],trivial⟩
 ·simp only[cr b,zS];refine⟨?_,trivial⟩;rw[iN,cr (λh=>b ⟨h.1,h.2.1⟩)]
theorem c_rAlone(a n:Int)(w:World):aa prog 210 [bS a,bS n] w λv c=>v= .bool (m4 a n)/\c=w:=by
 apply F210_ok;simp only[F210];refine(c_rRight a n w).step ?_;cases b:iN a n with
 |true=>
  have:=pU b;simp only[zS,aZ,ap (n:=a-n) dy dy];refine⟨?_,trivial⟩;rw[m4,b,Bool.true_and];congr 2;exact propext ⟨λh=>dy,λh=>dy⟩
 |false=>
  simp only[zS];exact⟨by simp[m4,b],trivial⟩
theorem c_rFits2(a off n:Int)(w:World):aa prog 208 [bS a,bS off,bS n] w λv e=>v= .bool (mf a off n)/\e=w:=by
 apply F208_ok;simp only[F208];refine(c_rRight a n w).step ?_;cases c:iN a n with
 |true=>
  have:=pU c;simp only[zS];refine(c_rAlone a n w).step ?_;cases d:m4 a n with
  |true=>
   simp only[zS];exact⟨by simp[mf,d],trivial⟩
  |false=>
   by_cases b:0<=off
   ·simp only[zS,aZ,b,ap (n:=a-n) dy dy];exact⟨by simp[mf,c,d,b],trivial⟩
   ·simp only[zS,b];exact⟨by simp[mf,b],trivial⟩
 |false=>
  simp only[zS];exact⟨by simp[mf,c],trivial⟩
theorem c_rAfter(a n:Int)(w:World):aa prog 171 [bS a,bS n] w λv d=>v=bS (eI a n)/\d=w:=by
 apply F171_ok;simp only[F171];refine(c_rRight a n w).step ?_;cases b:iN a n with
 |true=>
  simp only[zS];refine(c_rAlone a n w).step ?_;cases c:m4 a n with
  |true=>simp only[zS];exact⟨by simp[eI,b,c],trivial⟩
  |false=>simp only[zS];exact⟨by simp[eI,b,c],trivial⟩
 |false=>simp only[zS];exact⟨by simp[eI,b],trivial⟩
theorem round_step{k n:Int}(a:k=1\/k=2\/k=4\/k=8)(b:0<n):(n%k=0->hH k n=n)/\(n%k≠0->hH k (n+1)=hH k n/\n<hH k n):=by
 unfold hH;rcases a with rfl|rfl|rfl|rfl<;>constructor<;>intro h<;>(try constructor)<;>omega
theorem l_rRound1{k:Int}(b:k=1\/k=2\/k=4\/k=8)(w:World):∀(d:Nat) (n:Int),0<n->n<=2000->hH k n-n<=d->P169_1 (bS n) (bS k) w λv g=>v=bS (hH k n)/\g=w
 |d,n,i,o,p=>by
  apply L169_1_ok;obtain⟨j,l⟩:=round_step b i;have c:n.tmod k=n%k:=Int.tmod_eq_emod_of_nonneg dy;by_cases a:n%k=0
  ·have e:(n%k !=0)=false:=by rw[a];rfl
   simp only[L169_1,kF (show k≠0 by omega),c,zS,e];rw[j a];exact⟨rfl,trivial⟩
  ·have e:(n%k !=0)=true:=bne_iff_ne.2 a;obtain⟨f,m⟩:=l a;simp only[L169_1,kF (show k≠0 by omega),c,zS,e,aj,ap (n:=n+1) dy dy];match d with
   |0=>omega
   |d+1=>
    have hb:hH k n<=2000\/2000<hH k n:=dy;have:=l_rRound1 b w d (n+1) dy (by
     rcases hb with hb|hb
     ·omega
     ·unfold hH at hb m;rcases b with rfl|rfl|rfl|rfl<;>omega) (by rw[f];omega)
    rw[f]at this;exact this
theorem c_rRound(cls n:Int)(w:World):aa prog 169 [bS cls,bS n] w λv a=>v=bS (bW cls n)/\a=w:=by
 apply F169_ok;simp only[F169];refine(oY n 1 1024 w).step ?_;by_cases b:1<=n/\n<=1024
 ·have rv:bW cls n=hH (stepOf cls) n:=by rw[bW,bY dy]
  simp only[cj b,zS];rw[rv];have fin:∀k,k=1\/k=2\/k=4\/k=8->stepOf cls=k->P169_1 (bS n) (bS k) w λv a=>v=bS (hH (stepOf cls) n)/\a=w:=λk i e=>by
   rw[e];exact l_rRound1 i w (hH k n-n).toNat n dy dy dy
  apply L169_0_ok;by_cases c:0<cls
  ·simp only[L169_0,zS,c,show(0:Int)<3 by decide,m0,aj,show IntKind.i64.wrap (2*1)=2 by decide,show IntKind.i64.wrap (0+1)=1 by decide];apply L169_0_ok;by_cases d:1<cls
   ·simp only[L169_0,zS,d,show(1:Int)<3 by decide,m0,aj,show IntKind.i64.wrap (2*2)=4 by decide,show IntKind.i64.wrap (1+1)=2 by decide];apply L169_0_ok;by_cases f:2<cls
    ·simp only[L169_0,zS,f,show(2:Int)<3 by decide,m0,aj,show IntKind.i64.wrap (2*4)=8 by decide,show IntKind.i64.wrap (2+1)=3 by decide];apply L169_0_ok;by_cases g:3<cls
     ·simp only[L169_0,zS,g,show¬(3:Int)<3 by decide];exact fin 8 dy (by rw[stepOf,bY dy,bY dy,bY dy])
     ·simp only[L169_0,zS,g];exact fin 8 dy (by rw[stepOf,bY dy,bY dy,bY dy])
    ·simp only[L169_0,zS,f];exact fin 4 dy (by rw[stepOf,bY dy,bY dy,bX dy])
   ·simp only[L169_0,zS,d];exact fin 2 dy (by rw[stepOf,bY dy,bX dy])
  ·simp only[L169_0,zS,c];exact fin 1 dy (by rw[stepOf,bX dy])
 ·simp only[cr b,zS];exact⟨by rw[bW,bX dy],trivial⟩
theorem c_rLater(n:Int)(b:n<=4294967295)(w:World)(c:0<=n):aa prog 167 [bS n] w λv a=>v=bS (bF n)/\a=w:=by
 apply F167_ok;by_cases h:n>=4294967295
 ·simp only[F167,zS,h];exact⟨by rw[bF,bY dy],trivial⟩
 ·simp only[F167,zS,h,aj,ap (n:=n+1) dy dy];exact⟨by rw[bF,bX dy],trivial⟩
section
variable{w:World}{g:Nat}{x:tL}{s gn r d h:Value}
theorem int_at{w:World}{A:Option Addr}{c:Nat}{L:List Int}(d:rr .i64 w A L){i:Nat}{y:Int}(a:L[i]? =some y):
  ∃q:Addr,ai prog (Instr.indexAt 22 (.slice A L.length c) (bS (i:Int)))=some (.pointer (some q))/\fR prog 3 (.pointer (some q)) w=some (bS y):=by
 have e:=(ce.1 a).1;obtain⟨q,f,b⟩:=d.at (P:=prog) (c:=c) (j:= .i64) Tryz.underlying22 Tryz.underlying3 aE (i:=(i:Int)) dy dy;have g:L.getD i 0=y:=by rw[cu,a];rfl
 rw[cq,g]at b;exact⟨q,f,b⟩
def ixR(o:Option Nat):Int:=match o with|some i=>(i:Int)|none=> -1
def tN(L:List (eO×Bool))(n:iD):Option Nat:=ek (L.map (·.1)) n
theorem c_rFind(R:RfR w g x s gn r d h)(n:iD)(H:x.rgs.length<=1000000):aa prog 160 [bU g,bS n.1,bS n.2] w λv o=>v=bS (ixR (tN x.rgs n))/\o=w:=by
 apply F160_ok;simp only[F160];obtain⟨Fr,q⟩:=R.rT;have t:∀(d i:Nat),(∀ (j:Nat) (p:eO×Bool),j<i->x.rgs[j]? =some p->p.1.nm≠n)->i+d=x.rgs.length->
   P160_0 (bU g) (bS n.1) (bS n.2) (bS i) w λv o=>v=bS (ixR (tN x.rgs n))/\o=w:=by
  intro d;induction d with
  |zero=>
   intro i y E;apply L160_0_ok;obtain⟨A,c,_,_,e,_⟩:=aL.rd q;have u:=R.rl;rw[e]at u;have:¬(i:Int)<x.rgs.length:=dy;simp only[L160_0,zS,aS,bv,u,nE,this];have:tN x.rgs n=none:=uj λj r a=>by
    rw[cM]at a;cases k:x.rgs[j]? with
    |none=>rw[k]at a;cases a
    |some p=>rw[k]at a;cases a;exact y j p (by have:=(ce.1 k).1;omega) k
   rw[this];exact⟨rfl,trivial⟩
  |succ d F=>
   intro i y E;apply L160_0_ok;have l:(i:Int)<x.rgs.length:=dy;obtain⟨p,m⟩:∃p,x.rgs[i]? =some p:=⟨_,bZ dy⟩
   obtain⟨b,c,rfl,I,wv,ov,Q⟩:=tM q m;have z:=ph (b:=b) (p:=0) (n:=x.rgs.length) (c:=c) (j:= .i64) (i:=(i:Int)) dy dy;rw[cq,cV]at z;have next:p.1.nm≠n->P160_0 (bU g) (bS n.1) (bS n.2) (bS ((i:Int)+1)) w λv o=>v=bS (ixR (tN x.rgs n))/\o=w:=by
    intro C;have:=F (i+1) (λj r a f=>by
     rcases cZ j i with h1|h1
     ·exact y j r h1 f
     ·have:j=i:=dy;subst this;rw[m]at f;cases f;exact C) dy
    rw[db i 1]at this;exact this
   by_cases h1:p.1.nm.1=n.1
   ·have D:(p.1.nm.1==n.1)=true:=by rw[h1];exact beq_self_eq_true _
    by_cases B:p.1.nm.2=n.2
    ·have G:(p.1.nm.2==n.2)=true:=by rw[B];exact beq_self_eq_true _
     simp only[L160_0,zS,aS,bv,R.rl,nE,l,z,fa_250_0,fa_250_1,ag,Q.c0,Q.c1,D,G];have:tN x.rgs n=some i:=findR_some (r:=p.1) (by rw[cM,m];rfl) (Prod.ext h1 B) λj r a f=>by
      rw[cM]at f;cases k:x.rgs[j]? with
      |none=>rw[k]at f;cases f
      |some p=>rw[k]at f;cases f;exact y j p a k
     rw[this];exact⟨rfl,trivial⟩
    ·simp only[L160_0,zS,aS,bv,R.rl,nE,l,z,fa_250_0,fa_250_1,ag,Q.c0,Q.c1,D,bn B,aj,ap (n:=(i:Int)+1) dy dy];exact next λe=>B (by rw[e])
   ·simp only[L160_0,zS,aS,bv,R.rl,nE,l,z,fa_250_0,ag,Q.c0,bn h1,aj,ap (n:=(i:Int)+1) dy dy];exact next λe=>h1 (by rw[e])
 exact t x.rgs.length 0 (λj p a=>dy) dy
def lM(L:List Int):Nat:=(L.filter λp=>decide (p=0)).length
theorem c_rSpare(R:RfR w g x s gn r d h)(D:x.state.length<=1000000):aa prog 166 [bU g] w λv a=>v=bS (lM x.state)/\a=w:=by
 apply F166_ok;simp only[F166];obtain⟨A,c,rfl,t⟩:=lI R.sT;have b:∀(d i:Nat),i+d=x.state.length->P166_0 (bU g) (bS (lM (x.state.take i))) (bS i) w λv a=>v=bS (lM x.state)/\a=w:=by
  intro d;induction d with
  |zero=>
   intro i u;apply L166_0_ok;have:¬(i:Int)<x.state.length:=dy;simp only[L166_0,zS,nU,aH,R.sl,aK,this];rw[List.take_of_length_le dy];exact⟨rfl,trivial⟩
  |succ d z=>
   intro i u;apply L166_0_ok;have e:(i:Int)<x.state.length:=dy;have f:i<x.state.length:=dy;obtain⟨q,m,o⟩:=int_at (c:=c) t (bZ f);have j:lM (x.state.take (i+1))=lM (x.state.take i)+if x.state[i]=0 then 1 else 0:=by
    rw[List.take_add_one,bZ f];simp only[lM,Option.toList_some,List.filter_append,cJ];by_cases h:x.state[i]=0<;>simp[h]
   have B:lM (x.state.take i)<=i:=by
    have:=List.length_filter_le (λp:Int=>decide (p=0)) (x.state.take i);simp only[lM];simp at this ⊢;omega
   have one:∀k:Nat,k=lM (x.state.take (i+1))->P166_1 (bU g) (bS k) (bS i) w λv a=>v=bS (lM x.state)/\a=w:=by
    rintro k rfl;apply L166_1_ok;simp only[L166_1,zS,aj,ap (n:=(i:Int)+1) dy dy];have:=z (i+1) dy;rw[db i 1]at this;exact this
   generalize x.state[i]=y at*;by_cases l:y=0
   ·have C:(y==0)=true:=by rw[l];rfl
    simp only[L166_0,zS,nU,aH,R.sl,aK,e,m,o,C,aj,ap (n:=(lM (x.state.take i):Int)+1) dy dy];have:=one (lM (x.state.take i)+1) (by rw[j,bX l]);rw[db _ 1]at this;exact this
   ·simp only[L166_0,zS,nU,aH,R.sl,aK,e,m,o,bn l];exact one _ (by rw[j,bY l];rfl)
 exact b x.state.length 0 dy
end
section
variable{w:World}{g:Nat}{x:tL}{s gn r d h:Value}
def ru(p:eO×Bool)(a wv ov:Value):Array Value:= #[bS p.1.nm.1,bS p.1.nm.2,bS p.1.cls,bS p.1.off,.bool p.2,a,wv,ov]
theorem ld_rg{b o:Nat}{p:eO×Bool}{a wv ov:Value}(Q:RrR w b o p a wv ov):fR prog 250 (.pointer (some ⟨b,o,none⟩)) w=some (.agg (ru p a wv ov)):=by
 rw[ld_250,mI 8 o [bS p.1.nm.1,bS p.1.nm.2,bS p.1.cls,bS p.1.off,.bool p.2,a,wv,ov] rfl λj u hj=>by
  have hj':=(ce.1 hj).1;simp at hj';have h7:j=0\/j=1\/j=2\/j=3\/j=4\/j=5\/j=6\/j=7:=dy;rcases h7 with rfl|rfl|rfl|rfl|rfl|rfl|rfl|rfl<;>cases hj
  ·exact Q.c0
  ·exact Q.c1
  ·exact Q.c2
  ·exact Q.c3
  ·exact Q.c4
  ·exact Q.c5
  ·exact Q.c6
  ·exact Q.c7]
 rfl
theorem c_rAt{p:eO×Bool}{A:Option Addr}{c:Nat}{wv ov:Value}(E:rr .i64 w A p.1.chunks)(I:p.1.chunks.length<=1000000)(y:Int):aa prog 165 [.agg (ru p (.slice A p.1.chunks.length c) wv ov),bS y] w λv k=>v=bS (nH p.1.chunks y)/\ad [] w k:=by
 apply F165_ok;have l:hp (w.alloc (.cells (ru p (.slice A p.1.chunks.length c) wv ov) 250)) w.heap.size=some (.cells (ru p (.slice A p.1.chunks.length c) wv ov) 250):=by rw[af,bX rfl]
 have m:ad [] w (w.alloc (.cells (ru p (.slice A p.1.chunks.length c) wv ov) 250)):=(ad.refl _ _).alloc _;simp only[F165,ak,au];generalize w.alloc (.cells (ru p (.slice A p.1.chunks.length c) wv ov) 250)=w0 at*;generalize w.heap.size=F at*;have o:=E.an m.below;have s:(ru p (.slice A p.1.chunks.length c) wv ov)[0+5]? =some (.slice A p.1.chunks.length c):=rfl;have b:∀(d i:Nat),(∀ (j:Nat) (z:Int),j<i->p.1.chunks[j]? =some z->z≠y)->i+d=p.1.chunks.length->
   P165_0 (bS y) (bU F) (bS i) w0 λv k=>v=bS (nH p.1.chunks y)/\ad [] w k:=by
  intro d;induction d with
  |zero=>
   intro i g G;apply L165_0_ok;have:¬(i:Int)<p.1.chunks.length:=dy;simp only[L165_0,zS,lF,aH,l,s,aK,this];rw[pS λj z hj=>g j z (by have:=(ce.1 hj).1;omega) hj];exact⟨rfl,m⟩
  |succ d H=>
   intro i g G;apply L165_0_ok;have f:(i:Int)<p.1.chunks.length:=dy;have t:i<p.1.chunks.length:=dy;obtain⟨z,x⟩:∃z,p.1.chunks[i]? =some z:=⟨_,bZ t⟩
   obtain⟨q,C,D⟩:=int_at (c:=c) o x;by_cases a:z=y
   ·have e:(z==y)=true:=by rw[a];exact beq_self_eq_true _
    simp only[L165_0,zS,lF,aH,l,s,aK,f,C,D,e];rw[ti x a g];exact⟨rfl,m⟩
   ·simp only[L165_0,zS,lF,aH,l,s,aK,f,C,D,bn a,aj,ap (n:=(i:Int)+1) dy dy];have:=H (i+1) (λj u hj B=>by
     rcases cZ j i with h1|h1
     ·exact g j u h1 B
     ·have:j=i:=dy;subst this;rw[x]at B;cases B;exact a) dy
    rw[db i 1]at this;exact this
 exact b p.1.chunks.length 0 (λj r hj=>dy) dy
def jD(x:tL)(a:eF):Bool×Bool:=match tN x.rgs (dW a)with
 |none=>(false,false)
 |some i=>(decide (a.2.2.1=0/\a.2.2.2.1=0/\a.2.2.2.2=0),match x.rgs[i]? with|some p=>decide (a∈p.1.objs)|none=>false)
theorem findX_at{L:List (eO×Bool)}{n:iD}{i:Nat}(h:tN L n=some i):∃p,L[i]? =some p/\p.1.nm=n:=by
 obtain⟨r,a,c⟩:=ox h;rw[cM]at a;cases b:L[i]? with
 |none=>rw[b]at a;cases a
 |some p=>rw[b]at a;cases a;exact⟨p,rfl,c⟩
theorem c_rKnown(R:RfR w g x s gn r d h)(hl:x.rgs.length<=1000000)(ho:∀p∈x.rgs,p.1.objs.length<=1000000)(a:eF):aa prog 206 [bU g,.agg (bB a).toArray] w λv K=>v= .tuple #[.bool (jD x a).1,.bool (jD x a).2]/\ad [] w K:=by
 apply F206_ok;have u:hp (w.alloc (.cells (bB a).toArray 32)) w.heap.size=some (.cells (bB a).toArray 32):=by rw[af,bX rfl]
 have E:ad [] w (w.alloc (.cells (bB a).toArray 32)):=(ad.refl _ _).alloc _;simp only[F206,ak,au];generalize w.alloc (.cells (bB a).toArray 32)=w0 at*;generalize w.heap.size=g3 at*;have B:=R.an E;have e0:(bB a).toArray[0+0]? =some (bS a.1):=rfl;have e1:(bB a).toArray[0+1]? =some (bS a.2.1):=rfl;have F:(bB a).toArray[0+2]? =some (bS a.2.2.1):=rfl;have L:(bB a).toArray[0+3]? =some (bS a.2.2.2.1):=rfl;have e4:(bB a).toArray[0+4]? =some (bS a.2.2.2.2):=rfl;simp only[zS,bG,gR,ag,u,e0,e1];refine(c_rFind B (dW a) hl).step ?_;cases M:tN x.rgs (dW a)with
 |none=>
  have O:jD x a=(false,false):=by rw[jD,M]
  have C:(-1:Int)<0:=dy;simp only[ixR,zS,C];rw[O];exact⟨by first|rfl|trivial,E⟩
 |some i=>
  obtain⟨p,f,a1⟩:=findX_at M;have O:jD x a=(decide (a.2.2.1=0/\a.2.2.2.1=0/\a.2.2.2.2=0),decide (a∈p.1.objs)):=by rw[jD,M];simp only[f]
  have a2:=ho p (cD f);have l:¬(i:Int)<0:=dy;obtain⟨Fr,S⟩:=B.rT;obtain⟨b,c,rfl,cv,wv,ov,Q⟩:=tM S f;obtain⟨A,co,rfl,hR⟩:=objs_sh Q.oT;have hi:=(ce.1 f).1;have T:=ph (b:=b) (p:=0) (n:=x.rgs.length) (c:=c) (j:= .i64) (i:=(i:Int)) dy dy;rw[cq,cV]at T;have D:∀(t:Bool) (d k:Nat) (w1:World),ad [] w0 w1->(∀ (j:Nat) (y:eF),j<k->p.1.objs[j]? =some y->y≠a)->k+d=p.1.objs.length->
    P206_0 (bU g) (bU g3) (bS i) (.bool t) (bS k) w1 λv K=>v= .tuple #[.bool t,.bool (decide (a∈p.1.objs))]/\ad [] w K:=by
   intro t d;induction d with
   |zero=>
    intro k w1 o U hk;apply L206_0_ok;have:¬(k:Int)<p.1.objs.length:=dy;have V:=B.an o;have W:=Q.an o;simp only[L206_0,zS,aS,bv,V.rl,T,rY,sh,W.c7,len_76,this];refine⟨?_,E.trans o⟩;rw[cr (λhm=>by
     obtain⟨j,hj⟩:=dr hm;exact U j a (by have:=(ce.1 hj).1;omega) hj rfl)]
   |succ d ih=>
    intro k w1 o U hk;apply L206_0_ok;have X:(k:Int)<p.1.objs.length:=dy;have q:k<p.1.objs.length:=dy;have e:ad [] w0 w1.drew:=o.drew;have V:=B.an o;have W:=Q.an o;have a3:=B.an e;have a4:=Q.an e;obtain⟨y,G⟩:∃y,p.1.objs[k]? =some y:=⟨_,bZ q⟩
    obtain⟨bb,oo,q1,_,q3,_⟩:=(hR.an e.below).elem (P:=prog) (c:=co) (n:=p.1.objs.length) (i:=(k:Int)) (j:= .i64) Tryz.underlying76 ma dy (by rw[bN oW];exact cy _) dy dy;have Y:p.1.objs[k]=y:=by rw[bZ q]at G;exact Option.some.inj G
    rw[cq,lg oW p.1.objs k q,Y]at q3;have ly:fR prog 32 (.pointer (some ⟨bb,oo,none⟩)) w1.drew=some (.agg (bB y).toArray):=by rw[ld_32,q3];rfl
    have lx:=jh (show hp w1.drew g3=_ from o.at u (by simp));have Z:be prog .eql 32 (.tmp 53) (.tmp 54) (.agg (bB y).toArray) (.agg (bB a).toArray)=some (.bool (decide (y=a))):=by
     rw[<- hn_beq];exact be_eql_32
    simp only[L206_0,zS,aS,bv,V.rl,T,rY,sh,W.c7,len_76,X,q1,ly,lx,Z];by_cases m:y=a
    ·simp only[cj m,zS];refine⟨?_,E.trans e⟩;rw[cj (by rw[<- m];exact cD G)]
    ·simp only[cr m,zS,aj,ap (n:=(k:Int)+1) dy dy];have:=ih (k+1) w1.drew e (λj z hj hz=>by
      rcases cZ j k with h1|h1
      ·exact U j z h1 hz
      ·have:j=k:=dy;subst this;rw[G]at hz;cases hz;exact m) dy
     rw[db k 1]at this;exact this
  have fin:=λt=>D t p.1.objs.length 0 w0 (ad.refl _ _) (λj y hj=>dy) dy;rw[O];by_cases H:a.2.2.1=0
  ·have k2:(a.2.2.1==0)=true:=by rw[H];rfl
   by_cases I:a.2.2.2.1=0
   ·have k3:(a.2.2.2.1==0)=true:=by rw[I];rfl
    by_cases J:a.2.2.2.2=0
    ·have k4:(a.2.2.2.2==0)=true:=by rw[J];rfl
     simp only[ixR,zS,l,fy,ib,iK,ag,u,F,L,e4,k2,k3,k4];rw[cj ⟨H,I,J⟩];exact fin true
    ·simp only[ixR,zS,l,fy,ib,iK,ag,u,F,L,e4,k2,k3,bn J];rw[cr (show¬(a.2.2.1=0/\a.2.2.2.1=0/\a.2.2.2.2=0)from λh=>J h.2.2)];exact fin false
   ·simp only[ixR,zS,l,fy,ib,ag,u,F,L,k2,bn I];rw[cr (show¬(a.2.2.1=0/\a.2.2.2.1=0/\a.2.2.2.2=0)from λh=>I h.2.1)];exact fin false
  ·simp only[ixR,zS,l,fy,ag,u,F,bn H];rw[cr (show¬(a.2.2.1=0/\a.2.2.2.1=0/\a.2.2.2.2=0)from λh=>H h.1)];exact fin false
def goodX(x:tL)(k:Int)(a:eF):Bool:=if gH k=1 then(jD x a).1 else if gH k=2 then(jD x a).2 else if gH k=3 then(jD x a).1||(jD x a).2 else true
theorem c_rGood(R:RfR w g x s gn r d h)(k:x.rgs.length<=1000000)(l:∀p∈x.rgs,p.1.objs.length<=1000000)(o:ez)(a:eF):aa prog 159 [bU g,.agg (dC o).toArray,.agg (bB a).toArray] w λv m=>v= .bool (goodX x o.1 a)/\ad [] w m:=by
 apply F159_ok;simp only[F159,ak,au,ah];generalize e:(w.alloc (.cells (dC o).toArray 37)).alloc _=w1;have i:ad [] w w1:=by rw[<- e];exact((ad.refl _ _).alloc _).alloc _
 have n:hp w1 w.heap.size=some (.cells (dC o).toArray 37):=by rw[<- e,af,ah,bY dy,af,bX rfl]
 have t:hp w1 (w.heap.size+1)=some (.cells (bB a).toArray 32):=by rw[<- e,af,ah,bX rfl]
 clear e;simp only[jh t,ac];refine(c_rKnown (R.an i) k l a).mono ?_;rintro _ w2 ⟨rfl,j⟩;have b:=i.trans j;have f:=j.at n (by simp);simp only[jk,jm,zS,am,ag,f,aJ];refine(c_Of o.1 w2).step ?_;have gx:goodX x o.1 a=if gH o.1=1 then(jD x a).1 else if gH o.1=2 then(jD x a).2 else if gH o.1=3 then(jD x a).1||(jD x a).2 else true:=rfl
 rw[gx];by_cases k1:gH o.1=1
 ·have q:(gH o.1==1)=true:=by rw[k1];rfl
  simp only[zS,q];rw[bX k1];exact⟨by first|rfl|trivial,b⟩
 by_cases k2:gH o.1=2
 ·have q:(gH o.1==2)=true:=by rw[k2];rfl
  simp only[zS,bn k1,q];rw[bY k1,bX k2];exact⟨by first|rfl|trivial,b⟩
 by_cases c:gH o.1=3
 ·have q:(gH o.1==3)=true:=by rw[c];rfl
  cases u:(jD x a).1 with
  |true=>
   simp only[zS,bn k1,bn k2,q];rw[bY k1,bY k2,bX c];exact⟨by first|rfl|trivial|simp,b⟩
  |false=>
   simp only[zS,bn k1,bn k2,q];rw[bY k1,bY k2,bX c];exact⟨by first|rfl|trivial|simp,b⟩
 ·simp only[zS,bn k1,bn k2,bn c];rw[bY k1,bY k2,bY c];exact⟨by first|rfl|trivial,b⟩
end
section
variable{w:World}{g:Nat}{x:tL}{s gn r d h:Value}{F:Fp}
theorem hold_at{L:List (List iD)}{F:Fp}{y:Value}(d:mr L w F y){i:Nat}{l:List iD}(e:L[i]? =some l):∃b c v,y= .slice (some ⟨b,0,none⟩) L.length c/\ao (hp w b) i=some v/\∃F,nq l w F v:=by
 obtain⟨b,c,v,f,g,_,_,_,a,hv,_⟩:=aL.cell d (oX L) (k:=i) (P:=nq l) (by rw[cM,e];rfl);exact⟨b,c,v,g,a,f,hv⟩
theorem keys_sh{L:List iD}{v:Value}(a:∃F,nq L w F v):∃A c,v= .slice A L.length c/\ed w A (L.flatMap gD):=by
 obtain⟨F,a⟩:=a;obtain⟨b,_⟩:=fD a;obtain⟨A,c,e,r,_⟩:=aG b;exact⟨A,c,e,r⟩
theorem c_rHas(R:RfR w g x s gn r d h){n:Int}(T:0<=n){l:List iD}(E:x.holds[n.toNat]? =some l)(G:l.length<=1000000)(nm:iD):aa prog 161 [bU g,bS n,bS nm.1,bS nm.2] w λv o=>v= .bool (decide (nm∈l))/\o=w:=by
 apply F161_ok;simp only[F161];obtain⟨Fh,q⟩:=R.hT;obtain⟨b,c,v,rfl,hv,H⟩:=hold_at q E;obtain⟨A,I,rfl,J⟩:=keys_sh H;have U:=(ce.1 E).1;have t:=ia_180 (b:=b) (p:=0) (n:=x.holds.length) (c:=c) (j:= .i64) (i:=n) dy dy;rw[cV,dm]at t;have k:∀(d i:Nat),(∀ (j:Nat) (y:iD),j<i->l[j]? =some y->y≠nm)->i+d=l.length->
   P161_0 (bU g) (bS n) (bS nm.1) (bS nm.2) (bS i) w λv o=>v= .bool (decide (nm∈l))/\o=w:=by
  intro d;induction d with
  |zero=>
   intro i e K;apply L161_0_ok;have:¬(i:Int)<l.length:=dy;simp only[L161_0,zS,lD,qA,R.hl,t,kJ,hv,jL,this];rw[cr (λhm=>by
    obtain⟨j,hj⟩:=dr hm;exact e j nm (by have:=(ce.1 hj).1;omega) hj rfl)]
   exact⟨by first|rfl|trivial,trivial⟩
  |succ d L=>
   intro i e K;apply L161_0_ok;have u:(i:Int)<l.length:=dy;have f:i<l.length:=dy;obtain⟨y,m⟩:∃y,l[i]? =some y:=⟨_,bZ f⟩
   obtain⟨M,O,Q,_,F,_⟩:=J.elem (P:=prog) (c:=I) (n:=l.length) (i:=(i:Int)) (j:= .i64) Tryz.underlying161 sz_256 dy (by rw[bN mE];exact cy _) dy dy;have B:l[i]=y:=by rw[bZ f]at m;exact Option.some.inj m
   rw[cq,lg mE l i f,B]at F;have S:fR prog 256 (.pointer (some ⟨M,O,none⟩)) w=some (.agg (gD y).toArray):=by rw[ld_256,F];rfl
   have C:be prog .eql 256 (.tmp 31) (.tmp 34) (.agg (gD y).toArray) (.agg #[bS nm.1,bS nm.2])=some (.bool (decide (y=nm))):=by
    rw[<- nm_beq];exact be_eql_256
   simp only[L161_0,zS,lD,qA,R.hl,t,kJ,hv,jL,u,Q,S,ug,C];by_cases a:y=nm
   ·simp only[cj a,zS];rw[cj (by rw[<- a];exact cD m)];exact⟨by first|rfl|trivial,trivial⟩
   ·simp only[cr a,zS,aj,ap (n:=(i:Int)+1) dy dy];have:=L (i+1) (λj z hj D=>by
     rcases cZ j i with h1|h1
     ·exact e j z h1 D
     ·have:j=i:=dy;subst this;rw[m]at D;cases D;exact a) dy
    rw[db i 1]at this;exact this
 exact k l.length 0 (λj y hj=>dy) dy
theorem c_rFits(R:RfR w g x s gn r d h){i:Nat}{p:eO×Bool}(f:x.rgs[i]? =some p)(M:x.rgs.length<=1000000)(n:Int):aa prog 168 [bU g,bS i,bS n] w λv I=>v= .bool (ef p.1 x.c.2.2.1 (bW p.1.cls n))/\ad [] w I:=by
 apply F168_ok;simp only[F168];obtain⟨Fr,t⟩:=R.rT;obtain⟨b,c,rfl,O,wv,ov,Q⟩:=tM t f;obtain⟨A,l,rfl,J⟩:=lI Q.cT;have P:=(ce.1 f).1;have D:=ph (b:=b) (p:=0) (n:=x.rgs.length) (c:=c) (j:= .i64) (i:=(i:Int)) dy dy;rw[cq,cV]at D;obtain⟨S,u⟩:=Q.wT;obtain⟨T,y⟩:=Q.oT;have m:=((fJ _).one u).2;have o:=((gf _).one y).2;simp only[zS,aS,bv,R.rl,D,ld_rg Q,al_250];rw[st_250 (by rfl) (by
  have oi:∀(k:IntKind) (x:Int),(Value.int k x).oneCell'=true:=λ_ _=>rfl;have ob:∀b,(Value.bool b).oneCell'=true:=λ_=>rfl;have os:∀a n c,(Value.slice a n c).oneCell'=true:=λ_ _ _=>rfl;show(List.all [_,_,_,_,_,_,wv,ov] _)=true;simp[m,o,oi,ob,os]) (by rw[af,bX rfl];rfl) (by rw[af,bX rfl];rfl),af,bX rfl,ar]
 generalize e:put (w.alloc _) w.heap.size _ _=w1;have E:ad [] w w1:=by rw[<- e];exact((ad.refl _ _).alloc _).put (.inr (cy _)) _ _
 have z:hp w1 w.heap.size=some (.cells (ru p (.slice A p.1.chunks.length l) wv ov) 250):=by rw[<- e];exact aq (by simp) _ _
 clear e;have K:=R.an E;have B:ad [] w w1.drew:=E.drew;have L:(ru p (.slice A p.1.chunks.length l) wv ov)[0+2]? =some (bS p.1.cls):=rfl;have F:(ru p (.slice A p.1.chunks.length l) wv ov)[0+3]? =some (bS p.1.off):=rfl;have G:(ru p (.slice A p.1.chunks.length l) wv ov)[0+5]? =some (.slice A p.1.chunks.length l):=rfl;have q:ao (hp w1 g) (0+0+2)=some (bS x.c.2.2.1):=K.c 2 dy;by_cases H:(0:Int)<p.1.chunks.length
 ·have C:0<p.1.chunks.length:=dy;have rf:ef p.1 x.c.2.2.1 (bW p.1.cls n)=mf x.c.2.2.1 p.1.off (bW p.1.cls n):=by rw[ef,cj C,Bool.true_and]
  simp only[zS,lF,mN,fa_250_2,fM,fj,aH,ag,z,L,F,G,aK,H,q];rw[rf];repeat' (with_reducible apply And.intro)
  all_goals
   refine(c_rRound p.1.cls n w1.drew).step ?_;try simp only[zS,show hp w1.drew w.heap.size=_ from z,F,q]
   refine(c_rFits2 x.c.2.2.1 p.1.off (bW p.1.cls n) w1.drew).step ?_;try simp only[]
   exact⟨by first|rfl|trivial,B⟩
 ·have C:¬0<p.1.chunks.length:=dy;have rf:ef p.1 x.c.2.2.1 (bW p.1.cls n)=false:=by rw[ef,cr C];rfl
  simp only[zS,lF,mN,fa_250_2,aH,z,G,aK,H];rw[rf];first|exact⟨by first|rfl|trivial,B⟩|(repeat' (with_reducible apply And.intro))<;>first|exact B|rfl|trivial
def qL(L:List (eO×Bool))(a:Int):Bool:=L.any λp=>p.2&&decide (a∈p.1.chunks)
theorem c_rTaken(R:RfR w g x s gn r d h)(U:x.rgs.length<=1000000)(F:∀p∈x.rgs,p.1.chunks.length<=1000000)(y:Int):aa prog 170 [bU g,bS y] w λv u=>v= .bool (qL x.rgs y)/\ad [] w u:=by
 apply F170_ok;simp only[F170];have z:∀(d i:Nat) (w1:World),ad [] w w1->(∀ (j:Nat) (p:eO×Bool),j<i->x.rgs[j]? =some p->(p.2&&decide (y∈p.1.chunks))=false)->i+d=x.rgs.length->
   P170_0 (bU g) (bS y) (bS i) w1 λv u=>v= .bool (qL x.rgs y)/\ad [] w u:=by
  intro d;induction d with
  |zero=>
   intro i w1 o G M;apply L170_0_ok;obtain⟨Fr,q⟩:=(R.an o).rT;obtain⟨A,c,_,_,e,_⟩:=aL.rd q;have a:=(R.an o).rl;rw[e]at a;have:¬(i:Int)<x.rgs.length:=dy;simp only[L170_0,zS,aS,bv,a,nE,this];refine⟨?_,o⟩;have:qL x.rgs y=false:=by
    rw[qL,List.any_eq_false];intro p f;obtain⟨j,C⟩:=dr f;rw[G j p (by have:=(ce.1 C).1;omega) C];simp
   rw[this]
  |succ d O=>
   intro i w1 o G M;apply L170_0_ok;have B:(i:Int)<x.rgs.length:=dy;obtain⟨p,f⟩:∃p,x.rgs[i]? =some p:=⟨_,bZ dy⟩
   have L:=R.an o;obtain⟨Fr,q⟩:=L.rT;obtain⟨b,c,P,V,wv,ov,Q⟩:=tM q f;have a:=L.rl;rw[P]at a;obtain⟨A,S,rfl,H⟩:=lI Q.cT;have I:=ph (b:=b) (p:=0) (n:=x.rgs.length) (c:=c) (j:= .i64) (i:=(i:Int)) dy dy;rw[cq,cV]at I;have next:∀t,ad [] w t->(p.2&&decide (y∈p.1.chunks))=false->P170_0 (bU g) (bS y) (bS ((i:Int)+1)) t λv u=>v= .bool (qL x.rgs y)/\ad [] w u:=by
    intro t D T;have:=O (i+1) t D (λj r C J=>by
     rcases cZ j i with h1|h1
     ·exact G j r h1 J
     ·have:j=i:=dy;subst this;rw[f]at J;cases J;exact T) dy
    rw[db i 1]at this;exact this
   cases l:p.2 with
   |false=>
    have K:ao (hp w1 b) (i*8+4)=some (.bool false):=by rw[Q.c4,l]
    simp only[L170_0,zS,aS,bv,a,nE,B,I,jw,aB,K,aj,ap (n:=(i:Int)+1) dy dy];exact next w1 o (by rw[l];rfl)
   |true=>
    have K:ao (hp w1 b) (i*8+4)=some (.bool true):=by rw[Q.c4,l]
    simp only[L170_0,zS,aS,bv,a,nE,B,I,jw,aB,K,ld_rg Q];refine(c_rAt (p:=p) (c:=S) H (F p (cD f)) y).mono ?_;rintro _ t ⟨rfl,D⟩;have m:decide (nH p.1.chunks y>=0)=decide (y∈p.1.chunks):=sy _ _;by_cases E:y∈p.1.chunks
    ·rw[cj E]at m;have k:=of_decide_eq_true m;simp only[zS,k];refine⟨?_,o.trans D⟩;have:qL x.rgs y=true:=by
      rw[qL,List.any_eq_true];exact⟨p,cD f,by rw[l,cj E];rfl⟩
     rw[this]
    ·rw[cr E]at m;have k:=of_decide_eq_false m;simp only[zS,k,aj,ap (n:=(i:Int)+1) dy dy];exact next t (o.trans D) (by rw[cr E];simp)
 exact z x.rgs.length 0 w (ad.refl _ _) (λj r C=>dy) dy
theorem iR.qM{k:Nat}{L:List Int}(I:iR w g x F)(o:(rfT x)[k]? =some (eP L)){i:Nat}{y:Int}(p:L[i]? =some y):
  ∃b c,ao (hp w g) k=some (.slice (some ⟨b,0,none⟩) L.length c)/\b≠g/\F b/\ao (hp w b) i=some (bS y)/\
   ∀z,mX (hp w b) (i+1)=true/\∃f,dV 182 g ((rfT x).set k (eP (L.set i z))) (put w b ((dG (hp w b)).setIfInBounds i (bS z)) (dH (hp w b))) f/\aO F f w (put w b ((dG (hp w b)).setIfInBounds i (bS z)) (dH (hp w b))):=by
 have q:((ints L).map hN)[i]? =some (hN (bS y)):=by rw[ints,List.map_map,cM,p];rfl
 obtain⟨b,c,v,t,r,j,l,_,_,_,m,hv,_,a⟩:=dV.row I (fm x) o (fZ (ints_int L)) q;refine⟨b,c,r,j,l,by rw[m,hv.1],λz=>?_⟩;obtain⟨ok,_,_,_,f,n,s⟩:=a w ck (hN (bS z)) (bS z) (aO.none hv.2 w) (bH _ _) ⟨rfl,λ_ h=>h⟩;have d:((ints L).map hN).set i (hN (bS z))=(ints (L.set i z)).map hN:=by rw[<- List.map_set,flat_set1]
 rw[d]at n;have e:eP (L.set i z)=aL 3 1 L.length ((ints (L.set i z)).map hN):=by rw[eP,cE]
 rw[e];exact⟨ok,f,n,s⟩
end
section
variable{w:World}{g:Nat}{x:tL}{F:Fp}
theorem ints_row{n:Nat}(c:n<=maxLen){b:Nat}(hb:hp w b=some (.cells (ints (List.replicate n 0)).toArray 3)):eP (List.replicate n 0) w (λk=>k=b) (.slice (some ⟨b,0,none⟩) n n):=by
 have h:w.ownsRow 0 3 1 (.slice (some ⟨b,0,none⟩) n n) n (ints (List.replicate n 0)):=
  ⟨by simp[ints],.inr ⟨b,n,_,rfl,cX _,hb,cy _,c,by simp[ints],by simp[ints]⟩⟩
 have a:=gW h;have e:(λk=>(Value.slice (some ⟨b,0,none⟩) n n).ownBlock=some k)=(λk=>k=b):=by
  funext k;simp[Value.ownBlock,eq_comm]
 rw[e]at a;rw[eP,dt];exact a
theorem holds_row{n:Nat}(d:n<=maxLen){b:Nat}(hb:hp w b=some (.cells (List.replicate n (Value.slice none 0 0)).toArray 161)):mr (List.replicate n []) w (λk=>k=b) (.slice (some ⟨b,0,none⟩) n n):=by
 have h:w.ownsRow 0 161 1 (.slice (some ⟨b,0,none⟩) n n) n (List.replicate n (Value.slice none 0 0)):=
  ⟨by simp,.inr ⟨b,n,_,rfl,cX _,hb,cy _,d,by simp,by simp⟩⟩
 refine⟨_,λ_=>ck,by rw[dt];exact h,⟨by simp,λk P v c hv=>?_,λ_ _ _ _ _ b hb _=>hb⟩,λb ⟨_,_,hb⟩=>hb.elim,λk=>⟨λa=> .inl (by rw[a];rfl),λa=>?_⟩⟩
 ·rw[cM,List.getElem?_replicate]at c;rw[List.getElem?_replicate]at hv;split at c
  ·rename_i a;rw[bX a]at hv;cases c;cases hv;exact aL.nil
  ·cases c
 ·rcases a with a|⟨_,_,a⟩
  ·simp[Value.ownBlock]at a;exact a.symm
  ·exact a.elim
theorem rf_parts{x:tL}{m gv rv n hv:Value}{a b Fr Fd Fh:Fp}(r:eP x.state w a m)(s:eP x.gen w b gv)(t:qI x.rgs w Fr rv)(u:eP x.depth w Fd n)(y:mr x.holds w Fh hv)
  (d:∀i j:Nat,i<5->j<5->i≠j->oj ((λk:Nat=>if k=0 then a else if k=1 then b else if k=2 then Fr else if k=3 then Fd else Fh) i) ((λk:Nat=>if k=0 then a else if k=1 then b else if k=2 then Fr else if k=3 then Fd else Fh) j)):
  fu w (rfT x) (dK x.c++ [.bool x.loose,m,gv,rv,n,hv]) (λk=>if k<7 then ck else(λk:Nat=>if k=0 then a else if k=1 then b else if k=2 then Fr else if k=3 then Fd else Fh) (k-7)):=by
 refine⟨rfl,λk P v o e=>?_,λj k z f A=>?_⟩
 ·have f:=(ce.1 o).1;have g:(rfT x).length=12:=rfl;rw[g]at f;have l:k=0\/k=1\/k=2\/k=3\/k=4\/k=5\/k=6\/k=7\/k=8\/k=9\/k=10\/k=11:=dy;rcases l with rfl|rfl|rfl|rfl|rfl|rfl|rfl|rfl|rfl|rfl|rfl|rfl<;>cases o<;>cases e
  ·exact⟨rfl,λ_ h=>h⟩
  ·exact⟨rfl,λ_ h=>h⟩
  ·exact⟨rfl,λ_ h=>h⟩
  ·exact⟨rfl,λ_ h=>h⟩
  ·exact⟨rfl,λ_ h=>h⟩
  ·exact⟨rfl,λ_ h=>h⟩
  ·exact⟨rfl,λ_ h=>h⟩
  ·exact r
  ·exact s
  ·exact t
  ·exact u
  ·exact y
 ·have B:(rfT x).length=12:=rfl;rw[B]at z f;by_cases p:j<7
  ·simp only[bX p];exact λ_ h _=>h
  ·by_cases q:k<7
   ·simp only[bX q];exact λ_ _ h=>h
   ·simp only[bY p,bY q];exact d (j-7) (k-7) dy dy dy
theorem c_rNew(c:cP)(loose:Bool)(W:hY c=true)(w:World):aa prog 60 [.agg (dK c).toArray,.bool loose] w λv S=>∃g F,v=bU g/\ad [] w S/\iR S g (aP (oy c loose)) F/\∀k,F k->w.heap.size<=k:=by
 apply F60_ok;have T:hp (w.alloc (.cells (dK c).toArray 25)) w.heap.size=some (.cells (dK c).toArray 25):=by rw[af,bX rfl]
 have X:ad [] w (w.alloc (.cells (dK c).toArray 25)):=(ad.refl _ _).alloc _;simp only[F60,ak,au];generalize w.alloc (.cells (dK c).toArray 25)=w0 at*;obtain⟨h1,h2,h3,h4⟩:=may_cf W;have Y:(dK c).toArray[0+3]? =some (bS ((c.2.2.2.1.toNat:Nat):Int)):=by rw[cf_3];congr;omega
 have Z:(dK c).toArray[0+0]? =some (bS ((c.1.toNat:Nat):Int)):=by rw[cf_0];congr;omega
 have nm:aP (oy c loose)=⟨c,loose,List.replicate c.2.2.2.1.toNat 0,List.replicate c.2.2.2.1.toNat 0, [],List.replicate c.1.toNat 0,List.replicate c.1.toNat []⟩:=by simp[aP,oy]
 have l1:c.2.2.2.1.toNat<=4096:=dy;have l2:c.1.toNat<=64:=dy;generalize c.2.2.2.1.toNat=l at*;generalize c.1.toNat=d at*;obtain⟨ii,A,B,u,C⟩:=mR;obtain⟨ik,E,G,D,H⟩:=inf_161;have I:∀n,madeCells (Value.int .i64 0).cells (n*ii.size)=(ints (List.replicate n 0)).toArray:=λn=>by
  apply Array.toList_inj.1;rw[u,dm];have:=toList_madeCells_one (Value.int .i64 0) n;rw[ints,List.map_replicate];exact this
 have J:madeCells (Value.slice none 0 0).cells (d*ik.size)=(List.replicate d (Value.slice none 0 0)).toArray:=by
  apply Array.toList_inj.1;rw[D,dm];exact toList_madeCells_one (Value.slice none 0 0) d
 have p:l<=maxLen/\d<=maxLen:=by unfold maxLen;omega
 have fin:∀(m:World) (q r s t:Nat),ad [] w m->hp m q=some (.cells (ints (List.replicate l 0)).toArray 3)->hp m r=some (.cells (ints (List.replicate l 0)).toArray 3)->hp m s=some (.cells (ints (List.replicate d 0)).toArray 3)->hp m t=some (.cells (List.replicate d (Value.slice none 0 0)).toArray 161)->
   w.heap.size<=q/\w.heap.size<=r/\w.heap.size<=s/\w.heap.size<=t/\q≠r/\q≠s/\q≠t/\r≠s/\r≠t/\s≠t->
   ∃g F,Value.pointer (some ⟨m.heap.size,0,none⟩)=bU g/\ad [] w (m.alloc (.cells (dK c++ [Value.bool loose,Value.slice (some ⟨q,0,none⟩) l l,Value.slice (some ⟨r,0,none⟩) l l,Value.slice none 0 0,Value.slice (some ⟨s,0,none⟩) d d,Value.slice (some ⟨t,0,none⟩) d d]).toArray 182))/\
    iR (m.alloc (.cells (dK c++ [Value.bool loose,Value.slice (some ⟨q,0,none⟩) l l,Value.slice (some ⟨r,0,none⟩) l l,Value.slice none 0 0,Value.slice (some ⟨s,0,none⟩) d d,Value.slice (some ⟨t,0,none⟩) d d]).toArray 182)) g (aP (oy c loose)) F/\∀k,F k->w.heap.size<=k:=by
  intro m q r s t U hs hg hd hh ⟨n1,n2,n3,n4,d1,d2,d3,d4,d5,d6⟩;rw[nm];have L:=rf_parts (w:=m) (x:=⟨c,loose,List.replicate l 0,List.replicate l 0, [],List.replicate d 0,List.replicate d []⟩) (ints_row p.1 hs) (ints_row p.1 hg) (Fr:=ck) (rv:= .slice none 0 0) aL.nil (ints_row p.2 hd) (holds_row p.2 hh) (by
   intro i j hi hj a1 b y z;have M:i=0\/i=1\/i=2\/i=3\/i=4:=dy;have O:j=0\/j=1\/j=2\/j=3\/j=4:=dy;rcases M with rfl|rfl|rfl|rfl|rfl<;>rcases O with rfl|rfl|rfl|rfl|rfl<;>first
    |omega
    |(simp only[if_true,if_false,Nat.reduceEqDiff,ck]at y z;omega)
    |(simp[ck]at y z;omega)
    |(simp[ck]at y z))
  refine⟨m.heap.size,_,rfl,U.alloc _,dV.new L (fm _),λk o=>?_⟩;have sz:=U.size;rcases o with o|⟨j,_,o⟩
  ·omega
  ·split at o
   ·exact o.elim
   ·repeat' split at o
    ·have:k=q:=o;omega
    ·have:k=r:=o;omega
    ·exact o.elim
    ·have:k=s:=o;omega
    ·have:k=t:=o;omega
 have Q:∀a b e f,ai prog (Instr.build 182 #[(0,.agg (dK c).toArray),(1,.bool loose),(2,.slice (some ⟨a,0,none⟩) l l),(3,.slice (some ⟨b,0,none⟩) l l),(5,.slice (some ⟨e,0,none⟩) d d),(6,.slice (some ⟨f,0,none⟩) d d)])=some (.agg (dK c++ [Value.bool loose,Value.slice (some ⟨a,0,none⟩) l l,Value.slice (some ⟨b,0,none⟩) l l,Value.slice none 0 0,Value.slice (some ⟨e,0,none⟩) d d,Value.slice (some ⟨f,0,none⟩) d d]).toArray):=λa b e f=>uf;have R:hp w0.drew w.heap.size=some (.cells (dK c).toArray 25):=T;have V:=X.drew;have sz:w.heap.size<=w0.drew.heap.size:=V.size;have ea:∀{P:Program} {w:World} {K:Value->World->Prop},True:=fun{P w K}=>trivial;simp only[zS,iJ,eS,ag,fW R,T,Y,Z,jJ (P:=prog) (kl:= .i64) (kc:= .i64) (n:=l) Tryz.underlying22 A B (by rw[u];omega) (by rw[C];omega) dy,jJ (P:=prog) (kl:= .i64) (kc:= .i64) (n:=d) Tryz.underlying22 A B (by rw[u];omega) (by rw[C];omega) dy,
  jJ (P:=prog) (kl:= .i64) (kc:= .i64) (n:=d) Tryz.underlying180 E G (by rw[D];omega) (by rw[H];omega) dy,I,J,Q,au]
 repeat' (with_reducible apply And.intro)
 all_goals
  refine fin _ _ _ _ _ ((((V.alloc _).alloc _).alloc _).alloc _) ?_ ?_ ?_ ?_ ⟨?_,?_,?_,?_,?_,?_,?_,?_,?_,?_⟩;all_goals first
   |(simp only[af,ah,if_true];done)
   |((try simp only[af,ah,if_true]);(repeat' split)<;>first|rfl|omega)
   |((try simp only[ah]);omega)
end
section
variable{W w:World}{g:Nat}{m:dv}{F:Fp}{K:Nat}
theorem bdh_:ai prog (Instr.build 32 #[])=some (.agg (bB kY).toArray):=aX λw=>run_build w 32 _ _ dA
theorem bdh_01(x y:Int):ai prog (Instr.build 32 #[(0,bS x),(1,bS y)])=some (.agg (bB (x,y,0,0,0)).toArray):=aX λw=>run_build w 32 _ _ dA
theorem bdr_:ai prog (Instr.build 35 #[])=some (.agg (fI lV).toArray):=aX λw=>run_build w 35 _ _ dA
theorem tO(x:Int):ai prog (Instr.build 35 #[(0,bS x)])=some (.agg (fI (bL x)).toArray):=aX λw=>run_build w 35 _ _ dA
theorem bdr_1(h:eF):ai prog (Instr.build 35 #[(1,.agg (bB h).toArray)])=some (.agg (fI (0,h,0,0)).toArray):=aX λw=>run_build w 35 _ _ dA
theorem st_hn{r:eF}{b:Nat}{c:Array Value}{e:TypeId}(hb:hp w b=some (.cells c e))(a:c.size=5){L:World->Prop}:dE prog (Instr.storeAt 32 (bU b) (.agg (bB r).toArray)) w L=L (put w b (bB r).toArray e):=by
 rw[st_32 rfl rfl (by rw[hb,aT];exact cj dy) (by rw[hb];exact a),hb];rfl
end
section
variable{W w:World}{c:cP}{loose:Bool}
end
abbrev HV:=Int×Int×Int×Int×Int
abbrev ResV:=Int×HV×Int×Int
structure dR where
 wk:Int
 ix:Int
 op:ez
 iv:Int
 pt:Int
 bk:Int
 rs:Int
 re:ResV
def ji(s:dR):List Value:= [bS s.wk,bS s.ix,bS s.op.1,bS s.op.2.1,bS s.op.2.2.1,bS s.op.2.2.2.1,bT s.op.2.2.2.2.1,bT s.op.2.2.2.2.2,
 bS s.iv,bS s.pt,bS s.bk,bS s.rs,bS s.re.1,bS s.re.2.1.1,bS s.re.2.1.2.1,bS s.re.2.1.2.2.1,bS s.re.2.1.2.2.2.1,bS s.re.2.1.2.2.2.2,bS s.re.2.2.1,bT s.re.2.2.2]
theorem nJ(s:dR):(ji s).length=20:=rfl
def jV(s:dR):Array Value:=(ji s).toArray
theorem sp0(s:dR):(jV s)[0]? =some (bS s.wk):=rfl
theorem sp1(s:dR):(jV s)[1]? =some (bS s.ix):=rfl
theorem sp8(s:dR):(jV s)[8]? =some (bS s.iv):=rfl
theorem sp9(s:dR):(jV s)[9]? =some (bS s.pt):=rfl
theorem oK(s:dR):(jV s)[10]? =some (bS s.bk):=rfl
theorem nK(s:dR):(jV s)[11]? =some (bS s.rs):=rfl
theorem pr_max3{P:Program}{d:Array TypeId}{t:TypeId}{k:IntKind}{a b c:Int}:ai P (Builtin.max_ d t #[.int k a,.int k b,.int k c])=some (.int k (if c>(if b>a then b else a)then c else(if b>a then b else a))):=aX λw=>by simp[Builtin.max_,Builtin.max2]
def ahead(a b:dR):Bool:=decide (0<=a.rs)&&decide (a.rs<b.iv)
theorem c_Ahead(a b:dR)(w:World):aa prog 15 [.agg (jV a),.agg (jV b)] w λv c=>v= .bool (ahead a b)/\ad [] w c:=by
 apply F15_ok;have d:∀x y:Array Value,ad [] w ((w.alloc (.cells x 39)).alloc (.cells y 39)):=λx y=>((ad.refl _ _).alloc _).alloc _;by_cases h:0<=a.rs<;>simp[F15,ak,nK,sp8,h,ahead,d]
theorem uk(a b:dR)(w:World):aa prog 86 [.agg (jV a),.agg (jV b)] w λv c=>v= .bool (ahead a b)/\ad [] w c:=by
 apply F86_ok;have d:∀x y:Array Value,ad [] w ((w.alloc (.cells x 39)).alloc (.cells y 39)):=λx y=>((ad.refl _ _).alloc _).alloc _;by_cases h:0<=a.rs<;>simp[F86,ak,nK,sp8,h,ahead,d]
def right(s:dR):Bool:=decide (0<=s.wk/\s.wk<64/\0<=s.iv/\(s.pt= -1\/s.iv<=s.pt)/\(s.bk= -1\/(s.pt≠ -1/\s.pt<s.bk))/\(s.rs= -1\/(s.pt≠ -1/\s.pt<=s.rs/\s.bk<=s.rs)))
theorem c_right(s:dR)(w:World):aa prog 62 [.agg (jV s)] w λv m=>v= .bool (right s)/\ad [] w m:=by
 apply F62_ok;have a:∀x:Array Value,ad [] w (w.alloc (.cells x 39)):=λx=>(ad.refl _ _).alloc _;have no:∀(h:¬(0<=s.wk/\s.wk<64/\0<=s.iv/\(s.pt= -1\/s.iv<=s.pt)/\(s.bk= -1\/(s.pt≠ -1/\s.pt<s.bk))/\(s.rs= -1\/(s.pt≠ -1/\s.pt<=s.rs/\s.bk<=s.rs)))),right s=false:=λh=>cr h;have yes:∀(h:(0<=s.wk/\s.wk<64/\0<=s.iv/\(s.pt= -1\/s.iv<=s.pt)/\(s.bk= -1\/(s.pt≠ -1/\s.pt<s.bk))/\(s.rs= -1\/(s.pt≠ -1/\s.pt<=s.rs/\s.bk<=s.rs)))),right s=true:=λh=>cj h;by_cases b:s.wk<0
 ·simp[F62,ak,sp0,b,a,no dy]
 by_cases c:64<=s.wk
 ·simp[F62,ak,sp0,b,c,a,no dy]
 by_cases d:s.iv<0
 ·simp[F62,ak,sp0,sp8,b,c,d,a,no dy]
 by_cases k:s.pt= -1
 ·by_cases e:s.bk= -1
  ·by_cases f:s.rs= -1
   ·simp[F62,ak,sp0,sp8,sp9,oK,nK,b,c,d,k,e,f,a,yes dy]
   ·simp[F62,ak,sp0,sp8,sp9,oK,nK,b,c,d,k,e,bn f,a,no dy]
  ·simp[F62,ak,sp0,sp8,sp9,oK,nK,b,c,d,k,bne_iff_ne.2 e,a,no dy]
 have i:(s.pt != -1)=true:=bne_iff_ne.2 k;have g:(s.pt== -1)=false:=bn k;by_cases j:s.pt<s.iv
 ·simp[F62,ak,sp0,sp8,sp9,oK,nK,b,c,d,i,j,a,no dy]
 have fin:(s.bk= -1\/s.pt<s.bk)->∃v,True:=λ_=>⟨0,trivial⟩
 by_cases e:s.bk= -1
 ·by_cases f:s.rs= -1
  ·simp[F62,ak,sp0,sp8,sp9,oK,nK,b,c,d,i,j,e,f,a,yes dy]
  ·simp[F62,ak,sp0,sp8,sp9,oK,nK,b,c,d,i,j,e,bn f,pr_max3,a];rw[right,decide_eq_decide];omega
 ·by_cases l:s.bk<=s.pt
  ·simp[F62,ak,sp0,sp8,sp9,oK,nK,b,c,d,i,g,j,bne_iff_ne.2 e,l,a,no dy]
  ·by_cases f:s.rs= -1
   ·simp[F62,ak,sp0,sp8,sp9,oK,nK,b,c,d,i,g,j,bne_iff_ne.2 e,l,f,a,yes dy]
   ·simp[F62,ak,sp0,sp8,sp9,oK,nK,b,c,d,i,g,j,bne_iff_ne.2 e,l,bn f,pr_max3,a];rw[right,decide_eq_decide];omega
theorem c_one(s:dR)(w:World):aa prog 84 [.agg (jV s)] w λv o=>v= .bool (right s)/\ad [] w o:=by
 apply F84_ok;have a:∀x:Array Value,ad [] w (w.alloc (.cells x 39)):=λx=>(ad.refl _ _).alloc _;have no:∀(h:¬(0<=s.wk/\s.wk<64/\0<=s.iv/\(s.pt= -1\/s.iv<=s.pt)/\(s.bk= -1\/(s.pt≠ -1/\s.pt<s.bk))/\(s.rs= -1\/(s.pt≠ -1/\s.pt<=s.rs/\s.bk<=s.rs)))),right s=false:=λh=>cr h;have yes:∀(h:(0<=s.wk/\s.wk<64/\0<=s.iv/\(s.pt= -1\/s.iv<=s.pt)/\(s.bk= -1\/(s.pt≠ -1/\s.pt<s.bk))/\(s.rs= -1\/(s.pt≠ -1/\s.pt<=s.rs/\s.bk<=s.rs)))),right s=true:=λh=>cj h;by_cases b:s.wk<0
 ·simp[F84,ak,sp0,b,a,no dy]
 by_cases c:64<=s.wk
 ·simp[F84,ak,sp0,b,c,a,no dy]
 by_cases d:s.iv<0
 ·simp[F84,ak,sp0,sp8,b,c,d,a,no dy]
 by_cases l:s.pt= -1
 ·by_cases e:s.bk= -1
  ·by_cases g:s.rs= -1
   ·simp[F84,ak,sp0,sp8,sp9,oK,nK,b,c,d,l,e,g,a,yes dy]
   ·simp[F84,ak,sp0,sp8,sp9,oK,nK,b,c,d,l,e,bn g,a,no dy]
  ·simp[F84,ak,sp0,sp8,sp9,oK,nK,b,c,d,l,bne_iff_ne.2 e,a,no dy]
 have j:(s.pt != -1)=true:=bne_iff_ne.2 l;by_cases k:s.pt<s.iv
 ·simp[F84,ak,sp0,sp8,sp9,oK,nK,b,c,d,j,k,a,no dy]
 have m:¬s.pt<0:=dy;have i:0<=s.pt:=dy;by_cases e:s.bk= -1
 ·by_cases g:s.rs= -1
  ·simp[F84,ak,sp0,sp8,sp9,oK,nK,b,c,d,j,k,e,g,a,yes dy]
  ·by_cases f:s.pt<=s.rs
   ·simp[F84,ak,sp0,sp8,sp9,oK,nK,b,c,d,j,i,k,e,bn g,f,a];rw[right,decide_eq_decide];omega
   ·simp[F84,ak,sp0,sp8,sp9,oK,nK,b,c,d,j,i,k,e,bn g,f,a,no dy]
 ·by_cases n:s.bk<=s.pt
  ·simp[F84,ak,sp0,sp8,sp9,oK,nK,b,c,d,j,m,k,bne_iff_ne.2 e,n,a,no dy]
  ·by_cases g:s.rs= -1
   ·simp[F84,ak,sp0,sp8,sp9,oK,nK,b,c,d,j,m,k,bne_iff_ne.2 e,n,g,a,yes dy]
   ·by_cases f:s.pt<=s.rs
    ·simp[F84,ak,sp0,sp8,sp9,oK,nK,b,c,d,j,m,i,k,bne_iff_ne.2 e,n,bn g,f,a];rw[right,decide_eq_decide];omega
    ·simp[F84,ak,sp0,sp8,sp9,oK,nK,b,c,d,j,m,i,k,bne_iff_ne.2 e,n,bn g,f,a,no dy]
theorem l_Index{xs:List Int}(r:xs.length<=4611686018427387904){A:Option Addr}{c:Nat}{w:World}(g:rr .i64 w A xs)(x:Int):∀(d i:Nat),i+d=xs.length->
  P72_0 (.slice A xs.length c) (bS x) (bS xs.length) (bS i) w λv l=>(∃ k:Int,v=bS k/\(decide (0<=k)=(xs.drop i).contains x))/\l=w:=by
 intro d;induction d with
 |zero=>
  intro i m;apply L72_0_ok;have:¬((i:Int)<xs.length):=dy;simp only[L72_0,ac,aU,this,decide_false,aQ];exact⟨⟨-1,rfl,by rw[List.drop_of_length_le dy];rfl⟩,trivial⟩
 |succ d o=>
  intro i m;apply L72_0_ok;have a:(i:Int)<xs.length:=dy;have b:i<xs.length:=dy;obtain⟨q,f,e⟩:=g.at (P:=prog) (c:=c) (j:= .i64) Tryz.underlying22 Tryz.underlying3 aE (i:=(i:Int)) dy a;have p:xs.drop i=xs.getD i 0::xs.drop (i+1):=by
   rw[List.drop_eq_getElem_cons b,cu,bZ b];rfl
  rw[cq]at e;simp only[L72_0,ac,aU,a,decide_true,aY,f,e,be_eql,p,List.contains_cons];by_cases h:x=xs.getD i 0
  ·have hb:(x==xs.getD i 0)=true:=by rw[h];simp
   simp only[hb,aY,Bool.true_or];exact⟨⟨i,rfl,by simp⟩,trivial⟩
  ·have hb:(x==xs.getD i 0)=false:=bn h;simp only[hb,aQ,aj,ac,ap (n:=(i:Int)+1) dy dy,Bool.false_or];have h:=o (i+1) dy;rw[db i 1]at h;exact h
theorem c_Contains{xs:List Int}(d:xs.length<=4611686018427387904){v:Value}{w:World}(b:sY w v xs)(x:Int):aa prog 109 [v,bS x] w λv a=>v= .bool (xs.contains x)/\a=w:=by
 obtain⟨A,c,rfl,b⟩:=b;apply F109_ok;have e:aa prog 72 [.slice A xs.length c,bS x] w λv a=>(∃ k:Int,v=bS k/\(decide (0<=k)=xs.contains x))/\a=w:=by
  apply F72_ok;simp only[F72,aK,ac];have:=l_Index (c:=c) d b x xs.length 0 dy;simp only[List.drop_zero]at this;exact this
 refine e.mono ?_;rintro v a ⟨⟨k,rfl,f⟩,rfl⟩;simp only[pf,ac,f];exact⟨trivial,trivial⟩
def m5(s:dR):List Int:= [s.iv,s.pt,s.bk,s.rs]
def shrd(a b:dR):Bool:=(m5 b).any λx=>(x != -1)&&(m5 a).contains x
theorem slI_lit{w:World}{g:Nat}{a b c d:Int}{e:TypeId}(h:hp w g=some (.cells #[bS a,bS b,bS c,bS d] e)):sY w (.slice (some ⟨g,0,none⟩) 4 4) [a,b,c,d]:=by
 refine⟨some ⟨g,0,none⟩,4,rfl,λi f=>⟨_,rfl,?_⟩⟩;rw[eR,gi,h,aN];have f:i<4:=f;rcases(by omega:i=0\/i=1\/i=2\/i=3)with rfl|rfl|rfl|rfl<;>rfl
theorem l_shared{a:List Int}(A:a.length=4){b:List Int}(hb:b.length=4){w:World}{o e:Value}(p:sY w o a)(k:sY w e b):∀(d i:Nat),i+d=4->
  P63_0 o e (bS 4) (bS i) w λv r=>v= .bool ((b.drop i).any λx=>(x != -1)&&a.contains x)/\r=w:=by
 intro d;induction d with
 |zero=>
  intro i s;apply L63_0_ok;have:¬((i:Int)<4):=dy;simp only[L63_0,ac,aU,this,decide_false,aQ];exact⟨by rw[List.drop_of_length_le dy];rfl,trivial⟩
 |succ d t=>
  intro i s;apply L63_0_ok;have l:(i:Int)<4:=dy;have f:i<b.length:=dy;obtain⟨B,c,rfl,u⟩:=k;obtain⟨q,m,g⟩:=u.at (P:=prog) (c:=c) (j:= .i64) Tryz.underlying22 Tryz.underlying3 aE (i:=(i:Int)) dy dy;have y:b.drop i=b.getD i 0::b.drop (i+1):=by
   rw[List.drop_eq_getElem_cons f,cu,bZ f];rfl
  rw[cq]at g;simp only[L63_0,ac,aU,l,decide_true,aY,m,g,be_neq,y,List.any_cons];have next:=t (i+1) dy
  rw[db i 1]at next
  by_cases h:b.getD i 0= -1
  ·have hb:(b.getD i 0 != -1)=false:=by rw[h];rfl
   simp only[hb,gE_ft,bz,aQ,ac,aj,ap (n:=(i:Int)+1) dy dy,Bool.false_and,Bool.false_or];exact next
  ·have hb:(b.getD i 0 != -1)=true:=bne_iff_ne.2 h;simp only[hb,gE_true,ny];refine(c_Contains dy p _).step ?_;cases z:a.contains (b.getD i 0)
   ·simp only[bM,ac,aQ,aj,ap (n:=(i:Int)+1) dy dy,Bool.and_false,Bool.false_or];exact next
   ·simp only[bM,ac,aY,Bool.and_true,Bool.true_or];exact⟨trivial,trivial⟩
theorem c_shared(a b:dR)(w:World):aa prog 63 [.agg (jV a),.agg (jV b)] w λv c=>v= .bool (shrd a b)/\ad [] w c:=by
 apply F63_ok;simp[F63,ak,sp8,sp9,oK,nK];have d:ad [] w ((((w.alloc (.cells (jV a) 39)).alloc (.cells (jV b) 39)).alloc (.cells #[bS a.iv,bS a.pt,bS a.bk,bS a.rs] 3)).alloc (.cells #[bS b.iv,bS b.pt,bS b.bk,bS b.rs] 3)):=((((ad.refl _ _).alloc _).alloc _).alloc _).alloc _;have:=l_shared (a:=m5 a) (b:=m5 b) rfl rfl (slI_lit (g:=w.heap.size+1+1) (e:=3) (by simp)) (slI_lit (w:=((((w.alloc (.cells (jV a) 39)).alloc (.cells (jV b) 39)).alloc (.cells #[bS a.iv,bS a.pt,bS a.bk,bS a.rs] 3)).alloc (.cells #[bS b.iv,bS b.pt,bS b.bk,bS b.rs] 3))) (g:=w.heap.size+1+1+1) (e:=3) (by simp)) 4 0 dy;refine Part.mono this ?_;rintro v c ⟨rfl,rfl⟩;exact⟨rfl,d⟩
theorem ad.putN{S:List Nat}{a w:World}{b:Nat}{c:Array Value}{e:TypeId}(h:ad S a w)(hb:a.heap.size<=b):ad S a (put w b c e):=h.put (.inr hb) _ _
theorem callTo{P:Program}{f:FuncId}{args:List Value}{w w0:World}{a:Value}(h:aa P f args w λv b=>v=a/\b=w0){K:Value->World->Prop}(c:K a w0):aa P f args w K:=
 h.mono λv b ⟨d,e⟩=>by subst d;subst e;exact c
theorem pr_indexArr{P:Program}{t e:TypeId}{z n b o:Nat}{j:IntKind}{i:Int}(h:P.underlying t=some (.array n e))(a:(P.info? e).map (·.size)=some z)(c:0<=i)(d:i<n):
  ai P (Instr.indexAt t (.pointer (some ⟨b,o,none⟩)) (.int j i))=some (.pointer (some ⟨b,o+i.toNat*z,none⟩)):=aX λw=>by
 obtain⟨f,g,k⟩:=dc.1 a;have l:0<=i/\i<(n:Int):=⟨c,d⟩
 simp[Instr.indexAt,asIntOf,run_underlying h,Instr.sureAddr,l,sizeOf,typeInfo,g,k,eR]
def stC(s:dR):Array Value:= #[bS s.iv,bS s.pt,bS s.bk,bS s.rs]
theorem c_steps(s:dR)(w:World):aa prog 131 [.agg (jV s)] w λv a=>v= .agg (stC s)/\a=put ((w.alloc (.cells (jV s) 39)).alloc (.cells #[bS 0,bS 0,bS 0,bS 0] 201)) (w.heap.size+1) (stC s) 201:=by
 apply F131_ok;simp[F131,ak,sp8,sp9,oK,nK,st_201,ld_201,stC]
theorem stC_get(s:dR)(i:Nat)(h:i<4):(stC s)[i]? =some (bS ((m5 s).getD i 0)):=by
 rcases(by omega:i=0\/i=1\/i=2\/i=3)with rfl|rfl|rfl|rfl<;>rfl
def shar(a b:dR):Bool:=(m5 a).any λx=>(m5 b).any λy=>decide (0<=x)&&(x==y)
theorem drop_getD(b:List Int)(i:Nat)(h:i<b.length):b.drop i=b.getD i 0::b.drop (i+1):=by
 rw[List.drop_eq_getElem_cons h,cu,bZ h];rfl
theorem l_share2{a b:dR}{g k:Nat}(w0:World){i:Nat}(t:i<4)(w:World)(f:hp w g=some (.cells (stC a) 201))(l:hp w k=some (.cells (stC b) 201))(r:Bool)
  (next:∀c:World,hp c g=some (.cells (stC a) 201)->hp c k=some (.cells (stC b) 201)->ad [] w c->P85_1 (bU g) (bU k) (bS ((i:Int)+1)) c λv c=>v= .bool r/\ad [] w c):
  ∀(d j:Nat) (c:World),hp c g=some (.cells (stC a) 201)->hp c k=some (.cells (stC b) 201)->ad [] w c->j+d=4->
   P85_2 (bU g) (bU k) (bS i) (bS j) c λv c=>v= .bool (((m5 b).drop j).any (λy=>decide (0<=(m5 a).getD i 0)&&((m5 a).getD i 0==y))||r)/\ad [] w c:=by
 intro d;induction d with
 |zero=>
  intro j c f l q D;apply L85_2_ok;have:¬((j:Int)<4):=dy;simp only[L85_2,ac,aU,this,decide_false,aQ,aj,ap (n:=(i:Int)+1) dy dy];have e:(m5 b).drop j= []:=List.drop_of_length_le (by simp[m5];omega);rw[e,List.any_nil,Bool.false_or];exact next c f l q
 |succ d E=>
  intro j c f l q D;apply L85_2_ok;have u:(j:Int)<4:=dy;have F:j<4:=dy;have z:=pr_indexArr (P:=prog) (b:=g) (o:=0) (j:= .i64) (i:=(i:Int)) Tryz.underlying201 aE dy dy;have B:=pr_indexArr (P:=prog) (b:=k) (o:=0) (j:= .i64) (i:=(j:Int)) Tryz.underlying201 aE dy dy;have G:0+(i:Int).toNat*1=i:=dy;have H:0+(j:Int).toNat*1=j:=dy;rw[G]at z;rw[H]at B;have m:=E (j+1) c.drew f l q.drew dy;rw[db j 1]at m;have I:=drop_getD (m5 b) j (by simp[m5];omega);generalize J:(m5 a).getD i 0=x at*;generalize K:(m5 b).getD j 0=y at*;have A:=stC_get a i t;have C:=stC_get b j F;rw[J]at A;rw[K]at C;simp only[L85_2,ac,aU,u,decide_true,aY,z,ag,qu,f,aN,A,pf,I,List.any_cons];by_cases s:0<=x
  ·simp only[s,decide_true,oQ,ny,z,B,ag,qu,f,l,aN,A,C,ac,be_eql,bM,Bool.true_and];by_cases p:x=y
   ·have:(x==y)=true:=by rw[p];simp
    simp only[this,aY,Bool.true_or];exact⟨trivial,q.drew⟩
   ·simp only[bn p,aQ,aj,ac,ap (n:=(j:Int)+1) dy dy,Bool.false_or];simp only[s,decide_true,Bool.true_and]at m⊢;exact m
  ·simp only[s,decide_false,gd_ft,gv_ft,ac,bz,aQ,aj,ap (n:=(j:Int)+1) dy dy,Bool.false_and,Bool.false_or];simp only[s,decide_false,Bool.false_and]at m⊢;exact m
theorem l_share1{a b:dR}{g k:Nat}:∀(d i:Nat) (w:World),hp w g=some (.cells (stC a) 201)->hp w k=some (.cells (stC b) 201)->i+d=4->
  P85_1 (bU g) (bU k) (bS i) w λv c=>v= .bool (((m5 a).drop i).any λx=>(m5 b).any λy=>decide (0<=x)&&(x==y))/\ad [] w c:=by
 intro d;induction d with
 |zero=>
  intro i w e f o;apply L85_1_ok;have:¬((i:Int)<4):=dy;simp only[L85_1,ac,aU,this,decide_false,aQ];exact⟨by rw[List.drop_of_length_le (by simp[m5];omega)];rfl,ad.refl _ _⟩
 |succ d p=>
  intro i w e f o;apply L85_1_ok;have j:(i:Int)<4:=dy;simp only[L85_1,ac,aU,j,decide_true,aY];have:=l_share2 (a:=a) (b:=b) w (i:=i) dy w e f (((m5 a).drop (i+1)).any λx=>(m5 b).any λy=>decide (0<=x)&&(x==y)) (λc l m q=>by
   have h:=p (i+1) c l m dy;rw[db i 1]at h;refine Part.mono h ?_;rintro v r ⟨hv,n⟩;exact⟨hv,q.trans n⟩) 4 0 w e f (ad.refl _ _) dy
  rw[drop_getD (m5 a) i (by simp[m5];omega),List.any_cons];exact this
theorem c_share(a b:dR)(w:World):aa prog 85 [.agg (jV a),.agg (jV b)] w λv d=>v= .bool (shar a b)/\ad [] w d:=by
 have fin:∀(g k:Nat) (d:World),hp d g=some (.cells (stC a) 201)->hp d k=some (.cells (stC b) 201)->ad [] w d->P85_0 (bU g) (bU k) d λv d=>v= .bool (shar a b)/\ad [] w d:=by
  intro g k d o p q;apply L85_0_ok;refine Part.mono (l_share1 (a:=a) (b:=b) 4 0 d o p dy) ?_;rintro v r ⟨hv,l⟩;exact⟨hv,q.trans l⟩
 have j:∀(s:dR) (e:TypeId) (f:Nat×Nat),ldL (some (.cells (jV s) e f)) 0 20=some (ji s):=λs e f=>ldL_some (c:=jV s) (cy _);have i:∀s:dR,(ji s).toArray=jV s:=λs=>rfl;have m:∀s:dR,(stC s).size=4:=λs=>rfl;have n:∀s:dR,(stC s).toList.all (·.oneCell')=true:=λs=>rfl;apply F85_ok;simp only[F85,ak,au,ah];repeat' apply And.intro
 all_goals
  simp[ld_39,j,i];refine callTo (c_steps _ _) ?_;try simp[j,i]
  refine callTo (c_steps _ _) ?_;try simp[st_201,m,n]
  refine fin _ _ _ (by simp) (by simp) ?_;repeat' first
   |with_reducible apply ad.alloc
   |with_reducible apply ad.putN
   |with_reducible apply ad.drew
   |with_reducible exact ad.refl _ _
   |omega
theorem stps_right{s:dR}(h:right s=true):∀x∈m5 s,x= -1\/0<=x:=by
 have h:=of_decide_eq_true h;intro x a;simp[m5]at a;omega
theorem shr_eq{a b:dR}(h:right b=true):shrd a b=shar b a:=by
 have hb:=stps_right h;unfold shrd shar;rw[Bool.eq_iff_iff];simp only[List.any_eq_true,de,bne_iff_ne,ne_eq,List.contains_iff_mem,decide_eq_true_eq,beq_iff_eq];constructor
 ·rintro⟨x,c,d,e⟩;exact⟨x,c,x,e,by rcases hb x c with h|h;exact absurd h d;exact h,rfl⟩
 ·rintro⟨x,c,y,f,d,rfl⟩;exact⟨x,c,dy,f⟩
def kn(a s:dR):Bool:=(decide (a.wk=s.wk)&&(!(ahead a s)||decide (s.ix<=a.ix)))||shrd a s
def okAt(l:List dR)(i:Nat):Prop:=∀s,l[i]? =some s->right s=true/\(∀ p,0<i->l[i-1]? =some p->p.iv<s.iv)/\∀k a,k<i->l[k]? =some a->kn a s=false
def mayL(l:List dR):Prop:=∀i,i<l.length->okAt l i
def SlP(w:World)(v:Value)(l:List dR):Prop:=∃A c,v= .slice A l.length c/\ed w A (l.flatMap ji)
noncomputable def nL(l:List dR):Bool:= @decide (mayL l) (Classical.propDecidable _)
theorem mayB_f{l:List dR}{i:Nat}(a:i<l.length)(h:¬okAt l i):nL l=false:=by
 unfold nL;exact @decide_eq_false _ (Classical.propDecidable _) λb=>h (b i a)
theorem mayB_t{l:List dR}(h:mayL l):nL l=true:=by
 unfold nL;exact @decide_eq_true _ (Classical.propDecidable _) h
theorem ldC_keep{w a:World}(c:ad [] w a){b o:Nat}{v:Value}(h:ao (hp w b) o=some v):ao (hp a b) o=some v:=by
 cases hb:hp w b with
 |none=>rw[hb]at h;cases h
 |some x=>rw[c.at hb (by simp),<-hb];exact h
theorem ldL_keep{w d:World}(e:ad [] w d){b:Nat}:∀(n o:Nat) (vs:List Value),ldL (hp w b) o n=some vs->ldL (hp d b) o n=some vs
 |0,o,vs,h=>h
 |n+1,o,vs,h=>by
  rw[ldL]at h⊢;cases a:ao (hp w b) o with
  |none=>rw[a]at h;cases h
  |some v=>
   cases c:ldL (hp w b) (o+1) n with
   |none=>rw[a,c]at h;cases h
   |some us=>
    rw[a,c]at h;rw[ldC_keep e a,ldL_keep e n (o+1) us c];exact h
structure At(w:World)(b o:Nat)(s:dR):Prop where
 l:ldL (hp w b) o 20=some (ji s)
 f:∀k,k<20->ao (hp w b) (o+k)=(jV s)[k]?
theorem At.an{w c:World}{b o:Nat}{s:dR}(h:At w b o s)(d:ad [] w c):At c b o s:=by
 refine⟨ldL_keep d _ _ _ h.l,λk g=>?_⟩;have a:k<(ji s).length:=g;have e:(jV s)[k]? =some ((ji s)[k]'a):=by simp[jV]
 have:=h.f k g;rw[e]at this⊢;exact ldC_keep d this
theorem At.ld{w:World}{b o:Nat}{s:dR}(h:At w b o s):fR prog 39 (.pointer (some ⟨b,o,none⟩)) w=some (.agg (jV s)):=by
 rw[ld_39,h.l];rfl
theorem At.f0{w:World}{b o:Nat}{s:dR}(h:At w b o s):ao (hp w b) (o+0)=some (bS s.wk):=(h.f 0 dy).trans (sp0 s)
theorem At.f1{w:World}{b o:Nat}{s:dR}(h:At w b o s):ao (hp w b) (o+1)=some (bS s.ix):=(h.f 1 dy).trans (sp1 s)
theorem At.f8{w:World}{b o:Nat}{s:dR}(h:At w b o s):ao (hp w b) (o+8)=some (bS s.iv):=(h.f 8 dy).trans (sp8 s)
theorem pj{w:World}{b:Nat}{s:dR}{e:TypeId}(h:hp w b=some (.cells (jV s) e)):At w b 0 s:=
 ⟨by rw[h];exact ldL_some (c:=jV s) (cy _),λk a=>by rw[h,aN,cV]⟩
theorem hJ{w:World}{A:Option Addr}{l:List dR}{c i:Nat}{j:IntKind}(h:ed w A (l.flatMap ji))(a:i<l.length):
  ∃b o,ai prog (Instr.indexAt 26 (.slice A l.length c) (.int j i))=some (.pointer (some ⟨b,o,none⟩))/\At w b o l[i]:=by
 obtain⟨b,o,f,g,d,_⟩:=h.elem (P:=prog) (c:=c) (n:=l.length) (i:=(i:Int)) (j:=j) Tryz.underlying26 sz_39 dy (by rw[bN nJ];exact cy _) dy dy;rw[cq,lg nJ l i a]at d;refine⟨b,o,f,d,λk e=>?_⟩;rw[g k e,cq,flat_get nJ l i a k e];simp[jV]
theorem l_May1{l:List dR}(hl:l.length<=1000000){A:Option Addr}{c i g:Nat}(hi:i<l.length){W:World}(r:Bool)(U:(∃ k a,k<i/\l[k]? =some a/\kn a l[i]=true)->r=false)
  (next:(∀ k a,k<i->l[k]? =some a->kn a l[i]=false)->∀w,ed w A (l.flatMap ji)->ad [] W w->P33_0 (.slice A l.length c) (.slice A l.length c) (bS l.length) (bS ((i:Int)+1)) w λv e=>v= .bool r/\ad [] W e):
  ∀(d k:Nat) (w:World),ed w A (l.flatMap ji)->hp w g=some (.cells (jV l[i]) 39)->ad [] W w->(∀ t a,t<k->l[t]? =some a->kn a l[i]=false)->k+d=i->
   P33_1 (.slice A l.length c) (bU g) (.slice A l.length c) (bS l.length) (bS i) (bS i) (bS k) w λv e=>v= .bool r/\ad [] W e:=by
 intro d;induction d with
 |zero=>
  intro k w J M B x V;apply L33_1_ok;have:¬((k:Int)<i):=dy;simp only[L33_1,ac,aU,this,decide_false,aQ,aj,ap (n:=(i:Int)+1) dy dy];exact next (λt a O C=>x t a dy C) w J B
 |succ d X=>
  intro k w J M B x V;apply L33_1_ok;have P:(k:Int)<i:=dy;have y:k<l.length:=dy;obtain⟨b,o,E,K⟩:=hJ (c:=c) (j:= .i64) (i:=k) J y;have q:=pj M;have Y:kn l[k] l[i]=false->∀e,ad [] w e->P33_1 (.slice A l.length c) (bU g) (.slice A l.length c) (bS l.length) (bS i) (bS i) (bS ((k:Int)+1)) e λv e=>v= .bool r/\ad [] W e:=by
   intro m e D;have h:=X (k+1) e (J.an D.below) (D.at M (by simp)) (B.trans D) (λt a O C=>by
    rcases cZ t k with h|h
    ·exact x t a h C
    ·have:t=k:=dy;subst this;rw[bZ y]at C;rw[<- Option.some.inj C];exact m) dy
   rw[db k 1]at h;exact h
  have p:kn l[k] l[i]=true->r=false:=λm=>U ⟨k,l[k],dy,bZ y,m⟩;generalize hs:l[i]=s at*;generalize C:l[k]=a at*;have u:∀e,ad [] w e->(∀ b:Bool,shrd a s=b->kn a s=b)->aa prog 63 [.agg (jV a),.agg (jV s)] e λQ w=>nP (rB (.bool false) (some (Go.Value.bool true)) (some Q)) λR=>cnd R ((Go.Value.bool false)= .bool r/\ad [] W w)
    (nP (bp prog .add 3 (bS k) (Go.Value.int Go.IntKind.i64 1)) λS=>P33_1 (.slice A l.length c) (bU g) (.slice A l.length c) (bS l.length) (bS i) (bS i) S w λv e=>v= .bool r/\ad [] W e):=by
   intro e D m;refine(c_shared a s e).mono ?_;rintro v w2 ⟨rfl,F⟩;cases G:shrd a s with
   |true=>
    simp only[bz,ac,aY];exact⟨by rw[p (m true G)],B.trans (D.trans F)⟩
   |false=>
    simp only[bz,ac,aQ,aj,ap (n:=(k:Int)+1) dy dy];exact Y (m false G) w2 (D.trans F)
  simp only[L33_1,ac,aU,P,decide_true,aY,E,ic,ag,qu,K.f0,q.f0,be_eql];by_cases H:a.wk=s.wk
  ·have Z:(a.wk==s.wk)=true:=by rw[H];simp
   simp only[Z,oQ,ny,E,(K.an (ad.refl [] w).drew).ld,(q.an (ad.refl [] w).drew).ld,ac,gE_true];refine(c_Ahead a s w.drew).mono ?_;rintro v w1 ⟨rfl,f⟩;have f:ad [] w w1:=(ad.refl _ _).drew.trans f;have T:=K.an f;have z:=q.an f;cases I:ahead a s with
   |false=>
    simp only[kG,Bool.not_false,gd_tf,gv_tf,ac,bM,gE_tf,aY];exact⟨by rw[p (by simp[kn,H,I])],B.trans f⟩
   |true=>
    by_cases L:s.ix<=a.ix
    ·simp only[kG,Bool.not_true,gP,gO,ky,ag,z.f1,E,T.f1,qs,L,decide_true,ac,bM,bz,gd_tf,gv_tf,gE_tf,aY];exact⟨by rw[p (by simp[kn,H,L])],B.trans f⟩
    ·simp only[kG,Bool.not_true,gP,gO,ky,ag,z.f1,E,T.f1,qs,L,decide_false,ac,bM,bz,T.ld,z.ld,gE_false];exact u w1 f λb hb=>by simp[kn,I,L,hb]
  ·simp only[bn H,gd_ft,gv_ft,gE_ft,gd_uf,gv_uf,ac,bz,gP,gO,E,(K.an (ad.refl [] w).drew).ld,(q.an (ad.refl [] w).drew).ld,gE_false];exact u w.drew (ad.refl _ _).drew λb hb=>by simp[kn,H,hb]
abbrev EvV:=Int×Int×Bool
def evC(e:EvV):List Value:= [bS e.1,bS e.2.1,.bool e.2.2]
theorem l_May0{l:List dR}(V:l.length<=1000000){A:Option Addr}{c:Nat}{W:World}:∀(d i:Nat) (w:World),ed w A (l.flatMap ji)->ad [] W w->(∀ j,j<i->okAt l j)->i+d=l.length->
  P33_0 (.slice A l.length c) (.slice A l.length c) (bS l.length) (bS i) w λv u=>v= .bool (nL l)/\ad [] W u:=by
 intro d;induction d with
 |zero=>
  intro i w G x q X;apply L33_0_ok;have:¬((i:Int)<l.length):=dy;simp only[L33_0,ac,aU,this,decide_false,aQ];exact⟨by rw[mayB_t λj hj=>q j dy],x⟩
 |succ d Y=>
  intro i w G x q X;apply L33_0_ok;have H:(i:Int)<l.length:=dy;have m:i<l.length:=dy;obtain⟨b,o,Z,q2⟩:=hJ (c:=c) (j:= .i64) (i:=i) G m;simp only[L33_0,ac,aU,H,decide_true,aY,Z,q2.ld,al_39];rw[st_39 (by rfl) (by rfl) (by rw[af,bX rfl];rfl) (by rw[af,bX rfl];rfl),af,bX rfl];simp only[ar];have I:∀z:Array Value,ad [] w (put (w.alloc (.cells z 39)) w.heap.size (jV l[i]) 39)/\hp (put (w.alloc (.cells z 39)) w.heap.size (jV l[i]) 39) w.heap.size=some (.cells (jV l[i]) 39):=λz=>
   ⟨((ad.refl _ _).alloc _).put (.inr (cy _)) _ _,by rw[bf,bX rfl,bX (by simp)]⟩
  obtain⟨J,S⟩:=I #[bS 0,bS 0,bS 0,bS 0,bS 0,bS 0,bT 0,bT 0,bS 0,bS 0,bS 0,bS 0,bS 0,bS 0,bS 0,bS 0,bS 0,bS 0,bS 0,bT 0];generalize put (w.alloc (.cells #[bS 0,bS 0,bS 0,bS 0,bS 0,bS 0,bT 0,bT 0,bS 0,bS 0,bS 0,bS 0,bS 0,bS 0,bS 0,bS 0,bS 0,bS 0,bS 0,bT 0] 39)) w.heap.size (jV l[i]) 39=w1 at*;generalize w.heap.size=g at*;have y:=pj S;simp only[(y.an (ad.refl [] w1).drew).ld,ac];refine(c_right l[i] w1.drew).mono ?_;rintro v w2 ⟨rfl,f⟩;have f:ad [] w1 w2:=(ad.refl _ _).drew.trans f;have e:=J.trans f;have B:=G.an e.below;have C:=y.an f;have r:¬okAt l i->nL l=false:=λh=>mayB_f m h;have F:l[i]? =some l[i]:=bZ m;have inner:right l[i]=true->(∀ p,0<i->l[i-1]? =some p->p.iv<l[i].iv)->P33_1 (.slice A l.length c) (bU g) (.slice A l.length c) (bS l.length) (bS i) (bS i) (bS 0) w2 λv u=>v= .bool (nL l)/\ad [] W u:=by
   intro h1 h2;refine l_May1 (W:=W) V m (nL l) (fun⟨k,a,hk,ha,K⟩=>r λD=>by
    have:=(D l[i] F).2.2 k a hk ha;rw[K]at this;cases this) (λL u M O=>?_) i 0 w2 B (f.at S (by simp)) (x.trans e) (λk' a a1=>dy) dy
   have h:=Y (i+1) u M O (λj hj=>by
    rcases cZ j i with h|h
    ·exact q j h
    ·have:j=i:=dy;subst this;intro s T;rw[F]at T;cases T;exact⟨h1,h2,L⟩) dy
   rw[db i 1]at h;exact h
  cases P:right l[i]with
  |false=>
   simp only[kG,Bool.not_false,ac,gd_tf,gv_tf,bM,aY,gd_ut,gv_ut];exact⟨by rw[r λh=>by have:=(h l[i] F).1;rw[P]at this;cases this],x.trans e⟩
  |true=>
   by_cases Q:(0:Int)<i
   ·have t:i-1<l.length:=dy;obtain⟨b1,o1,R,U⟩:=hJ (c:=c) (j:= .i64) (i:=i-1) B t;rw[show((i-1:Nat):Int)=(i:Int)-1 by omega]at R;by_cases E:l[i].iv<=l[i-1].iv
    ·simp only[kG,Bool.not_true,ac,gP,gO,iH,Q,decide_true,oQ,ny,fa_39_3,ag,C.f8,aZ,ap (n:=(i:Int)-1) dy dy,R,U.f8,qs,E,bM,bz,aY];exact⟨by rw[r λh=>by have:=(h l[i] F).2.1 l[i-1] dy (bZ t);omega],x.trans e⟩
    ·simp only[kG,Bool.not_true,ac,gP,gO,iH,Q,decide_true,decide_false,oQ,ny,fa_39_3,ag,C.f8,aZ,ap (n:=(i:Int)-1) dy dy,R,U.f8,qs,E,bM,bz,aQ];exact inner P λp _ hp=>by
      rw[bZ t]at hp;cases hp;omega
   ·simp only[kG,Bool.not_true,ac,gP,gO,iH,Q,decide_false,gd_ft,gv_ft,bz,aQ];exact inner P λp h _=>dy
theorem c_RMay{l:List dR}(a:l.length<=1000000){v:Value}{w:World}(hv:SlP w v l):aa prog 33 [v] w λr b=>r= .bool (nL l)/\ad [] w b:=by
 obtain⟨A,c,rfl,d⟩:=hv;apply F33_ok;simp only[F33,ff,ac];exact l_May0 a l.length 0 w d (ad.refl _ _) (λj e=>dy) dy
theorem l_Ref1{l:List dR}(V:l.length<=1000000){A:Option Addr}{c i:Nat}(Q:i<l.length)(I:right l[i]=true){W:World}(r:Bool)(R:(∃ k a,k<i/\l[k]? =some a/\kn a l[i]=true)->r=false)
  (next:(∀ k a,k<i->l[k]? =some a->kn a l[i]=false)->∀w,ed w A (l.flatMap ji)->ad [] W w->P50_0 (.slice A l.length c) (bS ((i:Int)+1)) w λv m=>v= .bool r/\ad [] W m):
  ∀(d k:Nat) (w:World),ed w A (l.flatMap ji)->ad [] W w->(∀ p a,p<k->l[p]? =some a->kn a l[i]=false)->k+d=i->
   P50_1 (.slice A l.length c) (bS i) (bS k) w λv m=>v= .bool r/\ad [] W m:=by
 intro d;induction d with
 |zero=>
  intro k w C z q S;apply L50_1_ok;have:¬((k:Int)<i):=dy;simp only[L50_1,ac,aU,this,decide_false,aQ,aj,ap (n:=(i:Int)+1) dy dy];exact next (λp a J B=>q p a dy B) w C z
 |succ d T=>
  intro k w C z q S;apply L50_1_ok;have K:(k:Int)<i:=dy;have t:k<l.length:=dy;obtain⟨b,o,D,L⟩:=hJ (c:=c) (j:= .i64) (i:=k) C t;obtain⟨X,o',p1,p2⟩:=hJ (c:=c) (j:= .i64) (i:=i) C Q;have M:kn l[k] l[i]=false->∀m,ad [] w m->P50_1 (.slice A l.length c) (bS i) (bS ((k:Int)+1)) m λv m=>v= .bool r/\ad [] W m:=by
   intro u m O;have h:=T (k+1) m (C.an O.below) (z.trans O) (λp a J B=>by
    rcases cZ p k with h|h
    ·exact q p a h B
    ·have:p=k:=dy;subst this;rw[bZ t]at B;rw[<- Option.some.inj B];exact u) dy
   rw[db k 1]at h;exact h
  have f:kn l[k] l[i]=true->r=false:=λu=>R ⟨k,l[k],dy,bZ t,u⟩;have x:shrd l[k] l[i]=shar l[i] l[k]:=shr_eq I;generalize Y:l[i]=s at*;generalize B:l[k]=a at*;simp only[L50_1,ac,aU,K,decide_true,aY,D,p1,(L.an (ad.refl [] w).drew).ld,(p2.an (ad.refl [] w).drew).ld];refine(c_share s a w.drew).mono ?_;rintro v w1 ⟨rfl,e⟩;have e:ad [] w w1:=(ad.refl _ _).drew.trans e;have G:=L.an e;have p3:=p2.an e;cases y:shar s a with
  |true=>
   simp only[gd_tf,gv_tf,gd_ut,gv_ut,gd_uf,gv_uf,gE_ut,ac,bM,aY];exact⟨by rw[f (by simp[kn,x,y])],z.trans e⟩
  |false=>
   by_cases E:a.wk=s.wk
   ·have U:(a.wk==s.wk)=true:=by rw[E];simp
    simp only[gP,gO,D,p1,ic,ag,G.f0,p3.f0,ac,be_eql,U,oQ,ny,G.ld,p3.ld,gE_true];refine(uk a s w1).mono ?_;rintro v w2 ⟨rfl,g⟩;have P:=G.an g;have p4:=p3.an g;cases F:ahead a s with
    |false=>
     simp only[kG,Bool.not_false,gd_tf,gv_tf,ac,bM,bz,aY];exact⟨by rw[f (by simp[kn,E,F])],(z.trans e).trans g⟩
    |true=>
     by_cases H:s.ix<=a.ix
     ·simp only[kG,Bool.not_true,gP,gO,ky,ag,D,p1,P.f1,p4.f1,qs,H,decide_true,ac,bM,bz,aY];exact⟨by rw[f (by simp[kn,E,H])],(z.trans e).trans g⟩
     ·simp only[kG,Bool.not_true,gP,gO,ky,ag,D,p1,P.f1,p4.f1,qs,H,decide_false,ac,bM,bz,aQ,aj,ap (n:=(k:Int)+1) dy dy];exact M (by simp[kn,F,H,x,y]) w2 (e.trans g)
   ·simp only[gP,gO,D,p1,ic,ag,G.f0,p3.f0,ac,be_eql,bn E,gd_ft,gv_ft,gd_uf,gv_uf,gE_ft,bz,aQ,aj,ap (n:=(k:Int)+1) dy dy];exact M (by simp[kn,E,x,y]) w1 e
theorem l_Ref0{l:List dR}(R:l.length<=1000000){A:Option Addr}{c:Nat}{W:World}:∀(d i:Nat) (w:World),ed w A (l.flatMap ji)->ad [] W w->(∀ j,j<i->okAt l j)->i+d=l.length->
  P50_0 (.slice A l.length c) (bS i) w λv r=>v= .bool (nL l)/\ad [] W r:=by
 intro d;induction d with
 |zero=>
  intro i w B t g S;apply L50_0_ok;have:¬((i:Int)<l.length):=dy;simp only[L50_0,ff,ac,aU,this,decide_false,aQ];exact⟨by rw[mayB_t λj hj=>g j dy],t⟩
 |succ d T=>
  intro i w B t g S;apply L50_0_ok;have C:(i:Int)<l.length:=dy;have f:i<l.length:=dy;obtain⟨b,o,D,L⟩:=hJ (c:=c) (j:= .i64) (i:=i) B f;simp only[L50_0,ff,ac,aU,C,decide_true,aY,D,(L.an (ad.refl [] w).drew).ld];refine(c_one l[i] w.drew).mono ?_;rintro v w2 ⟨rfl,e⟩;have e:ad [] w w2:=(ad.refl _ _).drew.trans e;have u:=B.an e.below;have M:=L.an e;have m:¬okAt l i->nL l=false:=λh=>mayB_f f h;have z:l[i]? =some l[i]:=bZ f;have inner:right l[i]=true->(∀ p,0<i->l[i-1]? =some p->p.iv<l[i].iv)->P50_1 (.slice A l.length c) (bS i) (bS 0) w2 λv r=>v= .bool (nL l)/\ad [] W r:=by
   intro O U;refine l_Ref1 (W:=W) R f O (nL l) (fun⟨k,a,V,X,E⟩=>m λx=>by
    have:=(x l[i] z).2.2 k a V X;rw[E]at this;cases this) (λF r G H=>?_) i 0 w2 u (t.trans e) (λZ a Y=>dy) dy
   have h:=T (i+1) r G H (λj hj=>by
    rcases cZ j i with h|h
    ·exact g j h
    ·have:j=i:=dy;subst this;intro s P;rw[z]at P;cases P;exact⟨O,U,F⟩) dy
   rw[db i 1]at h;exact h
  cases I:right l[i]with
  |false=>
   simp only[kG,Bool.not_false,ac,gd_tf,gv_tf,bM,aY,gd_ut,gv_ut];exact⟨by rw[m λh=>by have:=(h l[i] z).1;rw[I]at this;cases this],t.trans e⟩
  |true=>
   by_cases J:(0:Int)<i
   ·have q:i-1<l.length:=dy;obtain⟨b1,o1,K,Q⟩:=hJ (c:=c) (j:= .i64) (i:=i-1) u q;rw[show((i-1:Nat):Int)=(i:Int)-1 by omega]at K;by_cases y:l[i].iv<=l[i-1].iv
    ·simp only[kG,Bool.not_true,ac,gP,gO,iH,J,decide_true,oQ,ny,D,fa_39_3,ag,M.f8,aZ,ap (n:=(i:Int)-1) dy dy,K,Q.f8,qs,y,bM,bz,aY];exact⟨by rw[m λh=>by have:=(h l[i] z).2.1 l[i-1] dy (bZ q);omega],t.trans e⟩
    ·simp only[kG,Bool.not_true,ac,gP,gO,iH,J,decide_true,decide_false,oQ,ny,D,fa_39_3,ag,M.f8,aZ,ap (n:=(i:Int)-1) dy dy,K,Q.f8,qs,y,bM,bz,aQ];exact inner I λp _ hp=>by
      rw[bZ q]at hp;cases hp;omega
   ·simp only[kG,Bool.not_true,ac,gP,gO,iH,J,decide_false,gd_ft,gv_ft,bz,aQ];exact inner I λp h _=>dy
theorem c_RMayRef{l:List dR}(a:l.length<=1000000){v:Value}{w:World}(hv:SlP w v l):aa prog 50 [v] w λr b=>r= .bool (nL l)/\ad [] w b:=by
 obtain⟨A,c,rfl,d⟩:=hv;apply F50_ok;simp only[F50];exact l_Ref0 a l.length 0 w d (ad.refl _ _) (λj e=>dy) dy
end Go.Proofs.YtnpflajdbchghaaGreat
