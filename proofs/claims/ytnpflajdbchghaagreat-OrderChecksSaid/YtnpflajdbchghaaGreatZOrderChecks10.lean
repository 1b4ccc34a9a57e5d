/- Parts of the proof of OrderChecks, one behind the other. Conditions: none. -/
import Derived.Test.YtnpflajdbchghaaGreatZOrderChecks9
set_option linter.unusedSimpArgs false
set_option linter.unusedVariables false
set_option maxHeartbeats 4000000
set_option maxRecDepth 10000
noncomputable section
namespace Go.Proofs.YtnpflajdbchghaaGreat
open Tryz(prog)
open Go Ev Go.RowKit
theorem c_iIndex{w:World}{A:Option Addr}{c:Nat}{L:List Int}(t:sZ .i64 w A L)(D:L.length<=1000000)(x:Int):aa prog 72 [.slice A L.length c,bN x] w λv k=>v=bN (nc L x)/\k=w:=by
 apply F72_ok;simp only[F72,zS,aQ];have b:∀(d i:Nat),(∀ (j:Nat) (y:Int),j<i->L[j]? =some y->y≠x)->i+d=L.length->
   P72_0 (.slice A L.length c) (bN x) (bN L.length) (bN i) w λv k=>v=bN (nc L x)/\k=w:=by
  intro d;induction d with
  |zero=>
   intro i g u;apply L72_0_ok;have:¬(i:Int)<L.length:=dB;simp only[L72_0,zS,this];rw[pE λj y hj=>g j y (by have:=(bY.1 hj).1;omega) hj];exact⟨rfl,trivial⟩
  |succ d B=>
   intro i g u;apply L72_0_ok;have f:(i:Int)<L.length:=dB;have l:i<L.length:=dB;obtain⟨q,s,m⟩:=t.at (P:=prog) (c:=c) (j:= .i64) Tryz.underlying22 Tryz.underlying3 aE (i:=(i:Int)) dB dB;obtain⟨y,o⟩:∃y,L[i]? =some y:=⟨_,bX l⟩
   have C:L.getD i 0=y:=by rw[cu,o];rfl
   rw[cj,C]at m;by_cases a:x=y
   ·have e:(x==y)=true:=by rw[a];simp
    simp only[L72_0,zS,f,s,m,e];rw[sM o a.symm g];exact⟨rfl,trivial⟩
   ·simp only[L72_0,zS,f,s,m,aW a,aj,ap (n:=(i:Int)+1) dB dB];have:=B (i+1) (λj z hj p=>by
     rcases dh j i with h1|h1
     ·exact g j z h1 p
     ·have:j=i:=dB;subst this;rw[o]at p;cases p;exact λe=>a e.symm) dB
    rw[df i 1]at this;exact this
 exact b L.length 0 (λj r hj=>dB) dB
theorem aO.none{F:Fp}(h:∀k,¬F k)(w:World):aO F cL w w:=⟨bl.refl _ _,λk a=>a.elim⟩
theorem kt.slotSet{w:World}{g:Nat}{m:dI}{F:Fp}(h:kt w g m F){i:Nat}{p p':iH}(e:m.slots[i]? =some p){k:Nat}(n:k<2){x:Int}(t:gD p'=(gD p).set k (bN x)):
  ∃b c,an (hp w g) (0+7)=some (.slice (some ⟨b,0,none⟩) m.slots.length c)/\pY (hp w b) (i*2+k+1)=true/\
   ∃l,kt (put w b ((dL (hp w b)).setIfInBounds (i*2+k) (bN x)) (dM (hp w b))) g {m with slots:=m.slots.set i p'} l/\aO F l w (put w b ((dL (hp w b)).setIfInBounds (i*2+k) (bN x)) (dM (hp w b))):=by
 obtain⟨v,J,K,y,r,o,z,A,_⟩:=eR.cell h (gO m) (k:=7) (P:=k0 m.slots) rfl;obtain⟨u,B⟩:∃u,(gD p)[k]? =some u:=⟨_,bX (by simpa [gD]using n)⟩
 have C:((m.slots.flatMap gD).map kY)[i*2+k]? =some (kY u):=by
  rw[cN,bK m9 m.slots i p e k n,B];rfl
 obtain⟨b,c,L,D,E,_,_,_,_,q,_,G⟩:=aZ.cell z (gF (nmC_int m.slots)) C;obtain⟨ok,s,a,f⟩:=G w cL (kY (bN x)) (bN x) (aO.none q.2 w) (fe _ _) ⟨rfl,λ_ h=>h⟩;have j:((m.slots.flatMap gD).map kY).set (i*2+k) (kY (bN x))=((m.slots.set i p').flatMap gD).map kY:=by
  rw[<- List.map_set,flatM_set m9 n t m.slots i e]
 rw[j]at a;have d:k0 (m.slots.set i p') (put w b ((dL (hp w b)).setIfInBounds (i*2+k) (bN x)) (dM (hp w b))) s v:=by
  rw[k0,cE];exact a
 obtain⟨l,H,I⟩:=A _ s (k0 (m.slots.set i p')) f d;exact⟨b,c,by rw[<- E];exact o,ok,l,H,I⟩
def nK(m:dI)(n:Int):Bool×dI:=if 0<=n/\n<m.slots.length then(match m.slots[n.toNat]? with|some p=>if p.1=2 then(true,{m with slots:=m.slots.set n.toNat (0,p.2)})else(false,m)|none=>(false,m))else(false,m)
theorem c_mBack{w:World}{g:Nat}{m:dI}{F:Fp}(I:kt w g m F)(n:Int):aa prog 48 [bS g,bN n] w λv t=>v= .bool (nK m n).1/\∃l,kt t g (nK m n).2 l/\aO F l w t:=by
 apply F48_ok;obtain⟨s,r,h,M⟩:=I.rd;simp only[F48];refine(c_mSlot M n).step ?_;obtain⟨A,c,rfl,B⟩:=pD M.sT;by_cases f:0<=n/\n<m.slots.length
 ·obtain⟨p,a⟩:∃p,m.slots[n.toNat]? =some p:=⟨_,bX dB⟩
  obtain⟨b,G,C,ok,l,D,E⟩:=I.slotSet a (p':=(0,p.2)) (k:=0) (x:=0) dB rfl;have u:=M.sl;rw[C]at u;cases u;have q:=ia_86 (b:=b) (p:=0) (n:=m.slots.length) (c:=c) (j:= .i64) (i:=n) dB dB;rw[cM]at q;obtain⟨H,o',y,z,J⟩:=slot_at (c:=c) B a;have d:((n.toNat:Nat):Int)=n:=dB;rw[d,q]at y;cases y;have hb:nK m n=if p.1=2 then(true,{m with slots:=m.slots.set n.toNat (0,p.2)})else(false,m):=by rw[nK,bU f,a]
  by_cases p2:p.1=2
  ·have e:(p.1 !=2)=false:=by rw[p2];rfl
   simp only[zS,f,and_self,mj,tf,M.sl,q,kT,ag,z,e];rw[gB (o:=n.toNat*2+0) rfl rfl ok,hb,bU p2];exact⟨rfl,l,D,E⟩
  ·have e:(p.1 !=2)=true:=bne_iff_ne.2 p2;simp only[zS,f,and_self,mj,tf,M.sl,q,kT,ag,z,e];rw[hb,bV p2];exact⟨rfl,F,I,aO.refl _ _⟩
 ·simp only[zS,f];rw[nK,bV f];exact⟨rfl,F,I,aO.refl _ _⟩
theorem lY{α β:Type}{f:α->List β}{z:Nat}(h:∀x,(f x).length=z){k:Nat}{p:β}(a:k<z){x x':α}(b:f x'=(f x).set k p){L:List α}{i:Nat}(c:L[i]? =some x):(L.flatMap f).set (i*z+k) p=(L.set i x').flatMap f:=flatM_set h a b L i c
theorem kt.rgCell{w:World}{g:Nat}{m:dI}{F:Fp}(h:kt w g m F){i:Nat}{r:fL}(A:m.rgs[i]? =some r){k:Nat}(B:k<7){P:Th}(O:(rgT r)[k]? =some P):
  ∃b c v q,an (hp w g) (0+8)=some (.slice (some ⟨b,0,none⟩) m.rgs.length c)/\¬q b/\(∀ x,q x->F x)/\F b/\b≠g/\an (hp w b) (i*7+k)=some v/\P w q v/\
   (∀ w1 n l r',aO q n w w1->l w1 n v->rgT r'=(rgT r).set k l->∃f,kt w1 g {m with rgs:=m.rgs.set i r'} f/\aO F f w w1)/\
   (∀ w1 n l v' r',aO q n w w1->fR l->l w1 n v'->rgT r'=(rgT r).set k l->pY (hp w1 b) (i*7+k+1)=true/\∃f,kt (put w1 b ((dL (hp w1 b)).setIfInBounds (i*7+k) v') (dM (hp w1 b))) g {m with rgs:=m.rgs.set i r'} f/\aO F f w (put w1 b ((dL (hp w1 b)).setIfInBounds (i*7+k) v') (dM (hp w1 b)))):=by
 obtain⟨rv,Fr,U,C,o,D,Q,p,_⟩:=eR.cell h (gO m) (k:=8) (P:=mN m.rgs) rfl;have E:(m.rgs.flatMap rgT)[i*7+k]? =some P:=(bK qq m.rgs i r A k B).trans O;obtain⟨b,c,v,q,G,y,H,s,z,R,S,T⟩:=aZ.cell Q (je m.rgs) E;refine⟨b,c,v,q,by rw[<- G];exact D,H,λx G=>o x (s x G),o b y,λe=>C (by rw[<- e];exact y),z,R,λw1 n l r' u hp t=>?_,λw1 n l v' r' u I J t=>?_⟩
 ·obtain⟨f,a,j⟩:=S w1 n l u hp;rw[lY qq B t A]at a;have d:mN (m.rgs.set i r') w1 f rv:=by rw[mN,cE];exact a
  obtain⟨K,L,M⟩:=p w1 f (mN (m.rgs.set i r')) j d;exact⟨K,L,M⟩
 ·obtain⟨ok,f,a,j⟩:=T w1 n l v' u I J;rw[lY qq B t A]at a;have d:mN (m.rgs.set i r') (put w1 b ((dL (hp w1 b)).setIfInBounds (i*7+k) v') (dM (hp w1 b))) f rv:=by rw[mN,cE];exact a
  obtain⟨K,L,M⟩:=p _ f (mN (m.rgs.set i r')) j d;exact⟨ok,K,L,M⟩
theorem kt.hdCell{w:World}{g:Nat}{m:dI}{F:Fp}(h:kt w g m F){i:Nat}{d:qL}(J:m.hands[i]? =some d){k:Nat}(K:k<2){P:Th}(L:(hdT d)[k]? =some P):
  ∃b c v n,an (hp w g) (0+9)=some (.slice (some ⟨b,0,none⟩) m.hands.length c)/\¬n b/\(∀ x,n x->F x)/\F b/\b≠g/\an (hp w b) (i*2+k)=some v/\P w n v/\
   (∀ w1 z o v' p,aO n z w w1->fR o->o w1 z v'->hdT p=(hdT d).set k o->pY (hp w1 b) (i*2+k+1)=true/\∃q,kt (put w1 b ((dL (hp w1 b)).setIfInBounds (i*2+k) v') (dM (hp w1 b))) g {m with hands:=m.hands.set i p} q/\aO F q w (put w1 b ((dL (hp w1 b)).setIfInBounds (i*2+k) v') (dM (hp w1 b)))):=by
 obtain⟨rv,Fr,U,A,a,B,M,r,_⟩:=eR.cell h (gO m) (k:=9) (P:=lW m.hands) rfl;have C:(m.hands.flatMap hdT)[i*2+k]? =some P:=(bK sK m.hands i d J k K).trans L;obtain⟨b,c,v,n,D,s,E,j,t,O,V,Q⟩:=aZ.cell M (good_hdL m.hands) C;refine⟨b,c,v,n,by rw[<- D];exact B,E,λx D=>a x (j x D),a b s,λe=>A (by rw[<- e];exact s),t,O,λw1 z o v' p u G H I=>?_⟩;obtain⟨ok,q,f,y⟩:=Q w1 z o v' u G H;rw[lY sK K I J]at f;have l:lW (m.hands.set i p) (put w1 b ((dL (hp w1 b)).setIfInBounds (i*2+k) v') (dM (hp w1 b))) q rv:=by rw[lW,cE];exact f
 obtain⟨R,S,T⟩:=r _ q (lW (m.hands.set i p)) y l;exact⟨ok,R,S,T⟩
abbrev jI:=Int×eN×Int×Int
def gw(r:jI):List Value:= [bN r.1,bN r.2.1.1,bN r.2.1.2.1,bN r.2.1.2.2.1,bN r.2.1.2.2.2.1,bN r.2.1.2.2.2.2,bN r.2.2.1,bR r.2.2.2]
def kJ:eN:=(0,0,0,0,0)
def lR:jI:=(0,kJ,0,0)
def bn(c:Int):jI:=(c,kJ,0,0)
def dO(h:eN):iH:=(h.1,h.2.1)
def rgOf(m:dI)(n:iH):Option fL:=(ec m.rgs n).bind (m.rgs[·]?)
def qs(r:fL)(a:Int):List Int:=r.words.getD (nc r.chunks a).toNat []
def gP(m:dI)(h:eN)(n:Int):Int:=match rgOf m (dO h)with
 |some r=>(qs r h.2.2.1).getD (h.2.2.2.1+n).toNat 0
 |none=>0
def setW(r:fL)(h:eN)(n x:Int):fL:={r with words:=r.words.set (nc r.chunks h.2.2.1).toNat ((qs r h.2.2.1).set (h.2.2.2.1+n).toNat x)}
def dU(m:dI)(h:eN)(n x:Int):dI:=match ec m.rgs (dO h)with
 |some i=>(match m.rgs[i]? with|some r=>{m with rgs:=m.rgs.set i (setW r h n x)}|none=>m)
 |none=>m
def eO(m:dI)(o:eu)(h:eN):jI:=
 if o.1=6\/o.1=8 then(0,kJ,0,gP m h o.2.2.2.1)
 else if o.1=9 then(0,kJ,if gP m h o.2.2.2.1=o.2.2.2.2.1 then 1 else 0,0)
 else if o.1=12 then(0,kJ,(match rgOf m (dO h)with|some r=>r.off|none=>0),0)
 else lR
def eG(m:dI)(w:Int)(o:eu)(h:eN):jI×Bool:=
 if lK m w o=false then(lR,false)
 else match m.hands[w.toNat]? with
 |none=>(lR,false)
 |some d=>
  if bI m d o h≠0 then(bn (bI m d o h),true)
  else if o.1=1\/o.1=2 then(lR,false)
  else(eO m o h,true)
def gA(m:dI)(w:Int)(d:qL):dI:={m with hands:=m.hands.set w.toNat d}
def fD(m:dI)(w:Int)(o:eu)(h:eN):dI:=match m.hands[w.toNat]? with
 |none=>m
 |some d=>
  if o.1=3 then gA m w {d with depth:=d.depth+1}
  else if o.1=4 then gA m w (if d.depth-1=0 then{depth:=0,holds:= []}else{d with depth:=d.depth-1})
  else if o.1=5 then(if eI d h then m else gA m w {d with holds:=d.holds++ [dO h]})
  else if o.1=7 then dU m h o.2.2.2.1 o.2.2.2.2.1
  else if o.1=8 then dU m h o.2.2.2.1 (IntKind.u64.wrap (gP m h o.2.2.2.1+o.2.2.2.2.1))
  else if o.1=9 then(if gP m h o.2.2.2.1=o.2.2.2.2.1 then dU m h o.2.2.2.1 o.2.2.2.2.2 else m)
  else if o.1=10 then(match m.slots[h.1.toNat]? with|some p=>{m with slots:=m.slots.set h.1.toNat (if m.loose then 0 else 2,p.2)}|none=>m)
  else m
def aY(g:Int):Int:=if g<4294967295 then g+1 else 0
def bT(m:dI)(cls:Int)(r:jI):Bool×dI:=
 if r=bn 7 then(m.loose||decide (gf m.slots=0),m)
 else if 0<=r.2.1.1/\r.2.1.1<m.slots.length then(match m.slots[r.2.1.1.toNat]? with
  |some p=>if p.1≠0 then(false,m)else if r=(0,(r.2.1.1,aY p.2,0,0,0),0,0)then
    (true,{m with slots:=m.slots.set r.2.1.1.toNat (1,aY p.2),rgs:=m.rgs++ [⟨(r.2.1.1,aY p.2),cls,0, [], [], []⟩]})else(false,m)
  |none=>(false,m))
 else(false,m)
def jf(m:dI)(a:Int):Bool:=m.rgs.any λr=>ft m r.nm&&decide (a∈r.chunks)
def lg(words need:Int)(r:fL)(want:eN):fL:=
 if dW r words need then{r with off:=r.off+need,objs:=r.objs++ [want]}
 else{r with chunks:=r.chunks++ [want.2.2.1],words:=r.words++ [List.replicate words.toNat 0],off:=eC words need,objs:=r.objs++ [want]}
def nL(words need n:Int)(r:fL)(h:eN)(a:Int):eN:=if dW r words need then(h.1,h.2.1,iD r.chunks,r.off,n)else(h.1,h.2.1,a,0,n)
def gX(m:dI)(n:Int)(h:eN)(r:jI):Bool×dI:=match ec m.rgs (dO h)with
 |none=>(false,m)
 |some i=>match m.rgs[i]? with
  |none=>(false,m)
  |some x=>
   let need:=bF x.cls n
   let a:=dW x m.c.2.2.1 need
   let want:=nL m.c.2.2.1 need n x h r.2.1.2.2.1
   if a=false/\r=bn 6 then(true,m)
   else if a=false/\(r.2.1.2.2.1<0\/m.c.2.1<=r.2.1.2.2.1\/jf m r.2.1.2.2.1=true)then(false,m)
   else if r=(0,want,0,0)then(true,{m with rgs:=m.rgs.set i (lg m.c.2.2.1 need x want)})
   else(false,m)
def doV(m:dI)(w:Int)(o:eu)(h:eN)(r:jI):Bool×dI:=
 if lK m w o=false then(false,m)
 else if(eG m w o h).2=true then
  (if r=(eG m w o h).1 then(true,if r.1=0 then fD m w o h else m)else(false,m))
 else if o.1=1 then bT m o.2.2.2.1 r
 else gX m o.2.2.2.1 h r
structure WfR(words:Int)(k:Nat)(r:fL):Prop where
 cl:r.chunks.length<=k
 wl:r.words.length=r.chunks.length
 ww:∀L∈r.words,(L.length:Int)=words
 ol:r.objs.length<=k
 ob:∀h∈r.objs,h.2.2.1∈r.chunks/\0<=h.2.2.2.1/\1<=h.2.2.2.2/\h.2.2.2.1+h.2.2.2.2<=words
 bL:0<=r.off
 ofw:r.off<=words
structure Wf(m:dI)(k:Nat):Prop where
 w1:1<=m.c.2.2.1
 w2:m.c.2.2.1<=1024
 sl:m.slots.length<=1000000
 sg:∀p∈m.slots,0<=p.2/\p.2<=4294967295
 hd:∀d∈m.hands,0<=d.depth/\d.depth<=15/\d.holds.length<=8
 rl:m.rgs.length<=k
 rg:∀r∈m.rgs,WfR m.c.2.2.1 k r
theorem Wf.small{m:dI}{k:Nat}(h:Wf m k)(a:k<=1000000):Small m:=
 ⟨cU h.rl a,λr b=>cU (h.rg r b).ol a,λd c=>by have:=(h.hd d c).2.2;omega⟩
theorem WfR.mono{words:Int}{k l:Nat}{r:fL}(h:WfR words k r)(a:k<=l):WfR words l r:=⟨cU h.cl a,h.wl,h.ww,cU h.ol a,h.ob,h.bL,h.ofw⟩
theorem Wf.mono{m:dI}{k l:Nat}(h:Wf m k)(a:k<=l):Wf m l:=⟨h.w1,h.w2,h.sl,h.sg,h.hd,cU h.rl a,λr b=>(h.rg r b).mono a⟩
theorem nN{L:List fL}{n:iH}{i:Nat}(h:ec L n=some i):∃r,L[i]? =some r/\r.nm=n:=by
 rw[ec,List.findIdx?_eq_some_iff_getElem]at h;obtain⟨a,hp,_⟩:=h;exact⟨L[i],bX a,by simpa using hp⟩
theorem ixOf_at{α:Type} [DecidableEq α]{L:List α}{x:α}(h:x∈L):∃i:Nat,nc L x=i/\L[i]? =some x:=by
 have a:=rM L x;rw[cr h,decide_eq_true_eq]at a;unfold nc at a⊢;split at a
 ·rename_i i b;rw[List.findIdx?_eq_some_iff_getElem]at b;obtain⟨c,hp,_⟩:=b;exact⟨i,rfl,by rw[bX c];simpa using hp⟩
 ·omega
theorem WfR.setW{words:Int}{k:Nat}{r:fL}(h:WfR words k r)(a:eN)(n x:Int):WfR words k (setW r a n x):=by
 refine⟨h.cl,by simp[Go.Proofs.YtnpflajdbchghaaGreat.setW,h.wl],λL b=>?_,h.ol,h.ob,h.bL,h.ofw⟩;rcases List.mem_or_eq_of_mem_set b with h1|h1
 ·exact h.ww L h1
 ·rw[h1,cE];by_cases c:(nc r.chunks a.2.2.1).toNat<r.words.length
  ·apply h.ww;rw[qs,cu,bX c];exact List.getElem_mem c
  ·rw[Go.Proofs.YtnpflajdbchghaaGreat.setW,List.set_eq_of_length_le dB]at b;have e:qs r a.2.2.1= []:=by rw[qs,cu,List.getElem?_eq_none dB];rfl
   rw[e]at h1;simp at h1;have:=h.ww L b;rw[h1]at this;rw[e];exact this
theorem mem_set{α:Type}{p:α->Prop}{L:List α}{i:Nat}{x:α}(h:∀y∈L,p y)(a:p x):∀y∈L.set i x,p y:=λy b=>by
 rcases List.mem_or_eq_of_mem_set b with h1|h1
 ·exact h y h1
 ·rw[h1];exact a
theorem Wf.setRg{m:dI}{k:Nat}(h:Wf m k){i:Nat}{r:fL}(a:WfR m.c.2.2.1 k r):Wf {m with rgs:=m.rgs.set i r} k:=
 ⟨h.w1,h.w2,h.sl,h.sg,h.hd,by simpa using h.rl,mem_set h.rg a⟩
theorem Wf.gA{m:dI}{k:Nat}(h:Wf m k){w:Int}{d:qL}(a:0<=d.depth/\d.depth<=15/\d.holds.length<=8):Wf (gA m w d) k:=
 ⟨h.w1,h.w2,h.sl,h.sg,mem_set h.hd a,h.rl,h.rg⟩
theorem Wf.setSl{m:dI}{k:Nat}(h:Wf m k){i:Nat}{p:iH}(hp:0<=p.2/\p.2<=4294967295):Wf {m with slots:=m.slots.set i p} k:=
 ⟨h.w1,h.w2,by simpa using h.sl,mem_set h.sg hp,h.hd,h.rl,h.rg⟩
theorem Wf.qt{m:dI}{k:Nat}(h:Wf m k)(a:eN)(n x:Int):Wf (dU m a n x) k:=by
 unfold dU;split
 ·split
  ·rename_i r b;exact h.setRg ((h.rg r (cD b)).setW a n x)
  ·exact h
 ·exact h
theorem later_ok{g:Int}(h:0<=g):0<=aY g/\aY g<=4294967295:=by unfold aY;split<;>omega
theorem Wf.back{m:dI}{k:Nat}(h:Wf m k)(n:Int):Wf (nK m n).2 k:=by
 unfold nK;split
 ·split
  ·rename_i p hp;split
   ·exact h.setSl (h.sg p (cD hp))
   ·exact h
  ·exact h
 ·exact h
theorem right_need{words need:Int}(h:iC words need=true):1<=need/\need<=words:=by have:=pF h;omega
theorem pG{r:fL}{words need:Int}(h:dW r words need=true):0<r.chunks.length/\1<=need/\0<=r.off/\r.off+need<=words:=by
 simp only[dW,lQ,cZ,Bool.not_eq_true',decide_eq_true_eq]at h;have:=right_need h.2.1;omega
theorem after_ok{words need:Int}(a:0<=words):0<=eC words need/\eC words need<=words:=by
 unfold eC;split
 ·rename_i h;have:=right_need h;split<;>omega
 ·omega
theorem newV_mem{l:List Int}(h:0<l.length):iD l∈l:=by
 rw[iD,bV dB,cu,bX dB];exact List.getElem_mem _
theorem round_ge{cls n:Int}(a:1<=n)(b:n<=1024):n<=bF cls n/\bF cls n<=1031:=by
 rw[bF,bV dB];have:stepOf cls=1\/stepOf cls=2\/stepOf cls=4\/stepOf cls=8:=by unfold stepOf;repeat' split;all_goals omega
 unfold gW;rcases this with h|h|h|h<;>rw[h]<;>omega
theorem WfR.grow{words:Int}{k:Nat}{r:fL}(h:WfR words k r)(c:0<=words){n need:Int}(d:1<=n)(e:n<=words)(f:n<=need)(a:eN)(g:Int):WfR words (k+1) (lg words need r (nL words need n r a g)):=by
 unfold lg nL;cases i:dW r words need with
 |true=>
  obtain⟨f1,o,j,l⟩:=pG i;simp only[if_true];refine⟨by have:=h.cl;simp only;omega,h.wl,h.ww,by have:=h.ol;simp;omega,λx b=>?_,by show 0<=r.off+need;omega,l⟩;rcases List.mem_append.1 b with h1|h1
  ·exact h.ob x h1
  ·rw[db.1 h1];exact⟨newV_mem f1,j,d,by show r.off+n<=words;omega⟩
 |false=>
  simp only[Bool.false_eq_true,if_false];refine⟨by have:=h.cl;simp;omega,by simp[h.wl],λL m=>?_,by have:=h.ol;simp;omega,λx b=>?_,(after_ok c).1,(after_ok c).2⟩
  ·rcases List.mem_append.1 m with h1|h1
   ·exact h.ww L h1
   ·rw[db.1 h1,dz];omega
  ·rcases List.mem_append.1 b with h1|h1
   ·have:=h.ob x h1;exact⟨List.mem_append_left _ this.1,this.2⟩
   ·rw[db.1 h1];exact⟨List.mem_append_right _ (by simp),by show(0:Int)<=0;omega,d,by show 0+n<=words;omega⟩
theorem may_n{m:dI}{w:Int}{o:eu}(h:lK m w o=true):0<=w/\w<m.hands.length/\0<=o.2.2.2.1:=by
 simp only[lK,jR,cZ,decide_eq_true_eq]at h;exact⟨h.1,h.2.1,h.2.2.2.2.2.1.1⟩
theorem refuses_n{m:dI}{d:qL}{o:eu}{h:eN}(a:bI m d o h=0)(f:o.1=2):1<=o.2.2.2.1/\o.2.2.2.1<=m.c.2.2.1/\ft m (dO h)=true/\eA m h 1=true:=by
 unfold bI at a;split at a
 ·omega
 ·rename_i g;have e:gu o.1=1:=by rw[f];rfl
  rw[e]at g;rw[dR,bU f]at a;split at a
  ·omega
  ·refine⟨dB,dB,?_,?_⟩
   ·unfold eD at a;split at a
    ·assumption
    ·omega
   ·cases b:eA m h 1 with
    |true=>rfl
    |false=>exact absurd ⟨dB,b⟩ g
theorem jv{m:dI}{d:qL}{o:eu}{h:eN}(a:bI m d o h=0):(gu o.1=0\/eA m h (gu o.1)=true)/\dR m.c.2.2.1 d (eI d h) (eD m h) o h.2.2.2.2=0:=by
 unfold bI at a;split at a
 ·omega
 ·rename_i f;refine⟨?_,a⟩;by_cases e:gu o.1=0
  ·exact .inl e
  ·right;cases b:eA m h (gu o.1)with
   |true=>rfl
   |false=>exact absurd ⟨e,b⟩ f
theorem Wf.does{m:dI}{k:Nat}(h:Wf m k){w:Int}{o:eu}{a:eN}{d:qL}(f:m.hands[w.toNat]? =some d)(i:bI m d o a=0):Wf (fD m w o a) k:=by
 have b:=(jv i).2;have c:=h.hd d (cD f);unfold fD;rw[f];simp only;split
 ·rename_i e;rw[dR,bV dB,bU e]at b;refine h.gA ⟨by simp only;omega,?_,c.2.2⟩;split at b
  ·omega
  ·simp only;omega
 split
 ·rename_i e g;rw[dR,bV dB,bV dB,bU g]at b;refine h.gA ?_;split
  ·exact⟨dm _,dC,cQ _⟩
  ·refine⟨?_,by simp only;omega,c.2.2⟩;split at b
   ·omega
   ·simp only;omega
 split
 ·rename_i e g j;rw[dR,bV dB,bV dB,bV dB,bU j]at b;split
  ·exact h
  ·rename_i l;refine h.gA ⟨c.1,c.2.1,?_⟩;split at b
   ·omega
   ·split at b
    ·omega
    ·simp;omega
 split
 ·exact h.qt _ _ _
 split
 ·exact h.qt _ _ _
 split
 ·split
  ·exact h.qt _ _ _
  ·exact h
 split
 ·split
  ·rename_i p hp;exact h.setSl (h.sg p (cD hp))
  ·exact h
 ·exact h
theorem Wf.creates{m:dI}{k:Nat}(h:Wf m k)(cls:Int)(r:jI):Wf (bT m cls r).2 (k+1):=by
 have b:=h.mono (Nat.le_succ k);unfold bT;split
 ·exact b
 split
 ·split
  ·rename_i p hp;split
   ·exact b
   split
   ·have d:=h.sg p (cD hp);refine⟨h.w1,h.w2,by simpa using h.sl,mem_set h.sg (later_ok d.1),h.hd,by have:=h.rl;simp;omega,λx hx=>?_⟩;rcases List.mem_append.1 hx with hx|hx
    ·exact b.rg x hx
    ·rw[db.1 hx];have:=h.w1;exact⟨cQ _,rfl,λL e=>by simp at e,cQ _,λa f=>by simp at f,dm _,by show(0:Int)<=m.c.2.2.1;omega⟩
   ·exact b
  ·exact b
 ·exact b
theorem Wf.gives{m:dI}{k:Nat}(h:Wf m k){n:Int}(d:1<=n)(e:n<=m.c.2.2.1)(a:eN)(r:jI):Wf (gX m n a r).2 (k+1):=by
 have b:=h.mono (Nat.le_succ k);have w1:=h.w1;have w2:=h.w2;unfold gX;split
 ·exact b
 ·split
  ·exact b
  ·rename_i i _ x f;have g:=h.rg x (cD f);simp only;split
   ·exact b
   split
   ·exact b
   split
   ·refine⟨h.w1,h.w2,h.sl,h.sg,h.hd,by have:=h.rl;simp;omega,mem_set b.rg ?_⟩;exact g.grow dB d e (round_ge d dB).1 a _
   ·exact b
theorem may_k{m:dI}{w:Int}{o:eu}(h:lK m w o=true):1<=o.1/\o.1<=12:=by
 simp only[lK,jR,cZ,decide_eq_true_eq]at h;exact⟨h.2.2.1.1,h.2.2.1.2⟩
theorem may_hd{m:dI}{w:Int}{o:eu}(h:lK m w o=true):∃d,m.hands[w.toNat]? =some d:=⟨_,bX (by have:=may_n h;omega)⟩
theorem must_open{m:dI}{w:Int}{o:eu}{h:eN}(b:lK m w o=true){d:qL}(c:m.hands[w.toNat]? =some d)(a:(eG m w o h).2=false):bI m d o h=0/\(o.1=1\/o.1=2):=by
 unfold eG at a;rw[bV (by rw[b];simp),c]at a;simp only at a;split at a
 ·cases a
 ·rename_i f;split at a
  ·rename_i e;exact⟨dB,e⟩
  ·cases a
theorem must_fine{m:dI}{w:Int}{o:eu}{h:eN}(b:lK m w o=true){d:qL}(c:m.hands[w.toNat]? =some d)(a:(eG m w o h).1.1=0):bI m d o h=0:=by
 unfold eG at a;rw[bV (by rw[b];simp),c]at a;simp only at a;split at a
 ·exact a
 ·omega
theorem pH{m:dI}{d:qL}{o:eu}{h:eN}(g:bI m d o h=0)(b:6<=o.1)(c:o.1<=9):eA m h 2=true/\o.2.2.2.1<h.2.2.2.2:=by
 obtain⟨f,a⟩:=jv g;have e:gu o.1=2:=by rw[gu,bV dB,bU ⟨b,c⟩]
 rw[e]at f;rw[dR,bV dB,bV dB,bV dB,bV dB,bU ⟨b,c⟩]at a;refine⟨f.resolve_left dB,?_⟩;split at a
 ·omega
 ·split at a
  ·omega
  ·omega
theorem pI{m:dI}{d:qL}{o:eu}{h:eN}(l:bI m d o h=0)(f:o.1=2\/o.1=10\/o.1=12):∃i r,ec m.rgs (dO h)=some i/\m.rgs[i]? =some r/\r.nm=dO h/\ft m (dO h)=true:=by
 obtain⟨g,a⟩:=jv l;have e:gu o.1=1:=by rw[gu,bU f]
 rw[e]at g;have n:ft m (dO h)=true:=by
  have:eD m h=0:=by
   unfold dR at a;rcases f with k|k|k
   ·rw[bU k]at a;split at a
    ·omega
    ·exact a
   ·rw[bV dB,bV dB,bV dB,bV dB,bV dB,bU dB]at a;exact a
   ·rw[bV dB,bV dB,bV dB,bV dB,bV dB,bU dB]at a;exact a
  unfold eD at this;split at this
  ·assumption
  ·omega
 have b:=g.resolve_left dB;unfold eA at b;split at b
 ·cases b
 ·rename_i i j;obtain⟨r,c,p⟩:=nN j;exact⟨i,r,j,c,p,n⟩
theorem Wf.doV{m:dI}{k:Nat}(h:Wf m k)(w:Int)(o:eu)(a:eN)(r:jI):Wf (doV m w o a r).2 (k+1):=by
 have b:=h.mono (Nat.le_succ k);unfold Go.Proofs.YtnpflajdbchghaaGreat.doV;cases c:lK m w o with
 |false=>simp only[if_true];exact b
 |true=>
  rw[bV (by simp)];obtain⟨d,e⟩:=may_hd c;split
  ·split
   ·rename_i g;simp only;split
    ·rename_i i;exact(h.does e (must_fine c e (by rw[<- g];exact i))).mono (Nat.le_succ k)
    ·exact b
   ·exact b
  ·rename_i j;have f:=must_open c e (by simpa using j);split
   ·exact h.creates _ _
   ·have:=refuses_n f.1 dB;exact h.gives this.1 this.2.1 a r
theorem ff{w a:World}(c:ad [] w a){b o:Nat}{v:Value}(h:an (hp w b) o=some v):an (hp a b) o=some v:=by
 have:hp a b=hp w b:=c.block b (by
  rcases dh b w.heap.size with h1|h1
  ·exact h1
  ·have d:hp w b=none:=by simp[hp];omega
   rw[d]at h;cases h) (by simp)
 rw[this];exact h
theorem kt.word{w:World}{g:Nat}{m:dI}{F:Fp}(I:kt w g m F){i:Nat}{r:fL}(V:m.rgs[i]? =some r){k:Nat}{L:List Int}(W:r.words[k]? =some L){j:Nat}{x:Int}(X:L[j]? =some x):
  ∃b c B C a D,an (hp w g) (0+8)=some (.slice (some ⟨b,0,none⟩) m.rgs.length c)/\an (hp w b) (i*7+5)=some (.slice (some ⟨B,0,none⟩) r.words.length C)/\an (hp w B) k=some (.slice (some ⟨a,0,none⟩) L.length D)/\an (hp w a) j=some (bR x)/\
   ∀y,pY (hp w a) (j+1)=true/\∃R,kt (put w a ((dL (hp w a)).setIfInBounds j (bR y)) (dM (hp w a))) g {m with rgs:=m.rgs.set i {r with words:=r.words.set k (L.set j y)}} R/\aO F R w (put w a ((dL (hp w a)).setIfInBounds j (bR y)) (dM (hp w a))):=by
 obtain⟨b,c,v,Fk,Y,Z,S,a1,_,E,G,q,_⟩:=I.rgCell V (k:=5) (P:=gS r.words) dB rfl;have H:(r.words.map mZ)[k]? =some (mZ L):=by rw[cN,W];rfl
 obtain⟨B,C,v2,a2,J,_,_,_,s,K,n,_⟩:=aZ.cell G (λP G=>by obtain⟨l,_,rfl⟩:=List.mem_map.1 G;exact lX l) H;have M:((fZ L).map kY)[j]? =some (kY (bR x)):=by rw[fZ,List.map_map,cN,X];rfl
 obtain⟨a,D,v3,a3,O,_,_,_,t,u,_,Q⟩:=aZ.cell K (gF (u64s_int L)) M;refine⟨b,c,B,C,a,D,Y,by rw[<- J];exact E,by rw[<- O];exact s,by rw[t,u.1],λy=>?_⟩;obtain⟨ok,T,f,z⟩:=Q w cL (kY (bR y)) (bR y) (aO.none u.2 w) (fe _ _) ⟨rfl,λ_ h=>h⟩;have A:((fZ L).map kY).set j (kY (bR y))=(fZ (L.set j y)).map kY:=by simp[fZ,List.map_set]
 rw[A]at f;have o:mZ (L.set j y) (put w a ((dL (hp w a)).setIfInBounds j (bR y)) (dM (hp w a))) T v2:=by rw[mZ,cE];exact f
 obtain⟨U,d,p⟩:=n _ T (mZ (L.set j y)) z o;rw[<- List.map_set]at d;have e:gS (r.words.set k (L.set j y)) (put w a ((dL (hp w a)).setIfInBounds j (bR y)) (dM (hp w a))) U v:=by rw[gS,cE];exact d
 obtain⟨F3,h1,h2⟩:=q _ U (gS (r.words.set k (L.set j y))) {r with words:=r.words.set k (L.set j y)} p e rfl;exact⟨ok,F3,h1,h2⟩
structure ObjAt(m:dI)(h:eN)(n:Int)(i:Nat)(r:fL)(k:Nat)(L:List Int)(j:Nat):Prop where
 fi:ec m.rgs (dO h)=some i
 ri:m.rgs[i]? =some r
 ix:nc r.chunks h.2.2.1=k
 wk:r.words[k]? =some L
 wl:(L.length:Int)=m.c.2.2.1
 jn:h.2.2.2.1+n=j
 jl:j<L.length
theorem obj_at{m:dI}{K:Nat}(W:Wf m K){h:eN}{n:Int}(a:eA m h 2=true)(l:0<=n)(o:n<h.2.2.2.2):∃i r k L j,ObjAt m h n i r k L j:=by
 unfold eA at a;split at a
 ·cases a
 ·rename_i i d;rw[bV dB]at a;obtain⟨r,b,_⟩:=nN d;simp only[b,cZ,decide_eq_true_eq]at a;have R:=W.rg r (cD b);obtain⟨f,p,q,s⟩:=R.ob h a.2;obtain⟨k,k1,k2⟩:=ixOf_at f;have c:=(bY.1 k2).1;obtain⟨L,e⟩:∃L,r.words[k]? =some L:=⟨_,bX (by rw[R.wl];exact c)⟩
  have g:=R.ww L (cD e);exact⟨i,r,k,L,(h.2.2.2.1+n).toNat,d,b,k1,e,g,dB,dB⟩
theorem ObjAt.val{m:dI}{h:eN}{n:Int}{i:Nat}{r:fL}{k:Nat}{L:List Int}{j:Nat}(O:ObjAt m h n i r k L j):L[j]? =some (gP m h n):=by
 have e:rgOf m (dO h)=some r:=by rw[rgOf,O.fi];exact O.ri
 have a:qs r h.2.2.1=L:=by rw[qs,O.ix,cj,cu,O.wk];rfl
 rw[gP,e];simp only;rw[a,O.jn,cj,cu,bX O.jl];rfl
theorem ObjAt.put{m:dI}{h:eN}{n:Int}{i:Nat}{r:fL}{k:Nat}{L:List Int}{j:Nat}(O:ObjAt m h n i r k L j)(y:Int):dU m h n y={m with rgs:=m.rgs.set i {r with words:=r.words.set k (L.set j y)}}:=by
 have a:qs r h.2.2.1=L:=by rw[qs,O.ix,cj,cu,O.wk];rfl
 simp only[dU,O.fi,O.ri,setW,a,O.ix,O.jn,cj]
structure WordAt(w:World)(g:Nat)(m:dI)(F:Fp)(h:eN)(n:Int)(g2 j:Nat):Prop where
 ld:an (hp w g2) j=some (bR (gP m h n))
 ok:pY (hp w g2) (j+1)=true
 st:∀y,∃F',kt (put w g2 ((dL (hp w g2)).setIfInBounds j (bR y)) (dM (hp w g2))) g (dU m h n y) F'/\aO F F' w (put w g2 ((dL (hp w g2)).setIfInBounds j (bR y)) (dM (hp w g2)))
theorem c_mWord{w:World}{g:Nat}{m:dI}{F:Fp}{K:Nat}(I:kt w g m F)(W:Wf m K)(Z:K<=1000000){h:eN}{n:Int}(hk:eA m h 2=true)(n0:0<=n)(n1:n<h.2.2.2.2):
  aa prog 39 [bS g,.agg (ba h).toArray,bN n] w λv l=>∃e j,v= .pointer (some ⟨e,j,none⟩)/\ad [] w l/\∀a,ad [] w a->WordAt a g m F h n e j:=by
 apply F39_ok;obtain⟨i,r,k,L,j,O⟩:=obj_at W hk n0 n1;obtain⟨b,c,bw,cw,e,c2,p1,p2,p3,p4,_⟩:=I.word O.ri O.wk O.val;have J:∀a,ad [] w a->WordAt a g m F h n e j:=λa D=>by
  obtain⟨b',c',a1,a2,f,a3,q1,q2,q3,q4,q5⟩:=(I.ao D).word O.ri O.wk O.val;rw[ff D p1]at q1;cases q1;rw[ff D p2]at q2;cases q2;rw[ff D p3]at q3;cases q3;exact⟨q4,(q5 0).1,λy=>by rw[O.put];exact(q5 y).2⟩
 obtain⟨s,rv,hh,M⟩:=I.rd;have o:=M.rl;rw[p1]at o;cases o;have w1:=W.w1;have w2:=W.w2;have d:hp (w.alloc (.cells (ba h).toArray 32)) w.heap.size=some (.cells (ba h).toArray 32):=by rw[af,bU rfl]
 have P:ad [] w (w.alloc (.cells (ba h).toArray 32)):=(ad.refl _ _).alloc _;simp only[F39,ak,aq];generalize w.alloc (.cells (ba h).toArray 32)=w0 at*;generalize w.heap.size=Q at*;have S:∀l,hp l Q=some (.cells (ba h).toArray 32)->gi prog 32 (bS Q) l=some (.agg (ba h).toArray):=λl hw=>aR (t:=32) (c:=(ba h).toArray) qJ (show(Tryz.prog.info? 32).map (·.size)=some (ba h).toArray.size from lP) hw;simp only[S _ d,ac];refine(kD h w0).mono ?_;rintro _ w1 ⟨rfl,k1⟩;have q:=P.trans k1;refine(sL (M.ao q) (h.1,h.2.1) (cU W.rl Z)).mono ?_;rintro v w2 ⟨k2,E⟩;have T:=q.trans k2;have hf:ec m.rgs (h.1,h.2.1)=some i:=O.fi;rw[hf]at E;rcases E with⟨E,_⟩|⟨i',rg,b',c',U,u,hr,rfl⟩
 ·cases E
 cases U;cases hr;have H:ad [] w w2.drew:=T.drew;have b2:=(k1.trans k2).at d (by simp);have e2:(ba h).toArray[0+2]? =some (bN h.2.2.1):=rfl;have e3:(ba h).toArray[0+3]? =some (bN h.2.2.2.1):=rfl;rw[O.ri]at u;cases u;obtain⟨G,hG⟩:=(M.ao H).rT;obtain⟨a4,a5,hx,cv,wv,ov,R⟩:=rg_at hG O.ri;cases hx;have x:=R.c5;rw[ff H p2]at x;cases x;obtain⟨A,cc,V,hR⟩:=lf R.cT;have R4:=R.c4;rw[V]at R4;have R5:=R.c5;have a6:=(bY.1 O.wk).1;have z:=ia_97 (b:=bw) (p:=0) (n:=r.words.length) (c:=cw) (j:= .i64) (i:=(k:Int)) dB dB;rw[cj,cM,dr]at z;have a7:=O.jl;have B:=ia_139 (b:=e) (p:=0) (n:=L.length) (c:=c2) (j:= .i64) (i:=(j:Int)) dB dB;rw[cj,cM,dr]at B;have X:=ff H p3;have a8:=O.wl;have Y:r.chunks.length<=1000000:=cU (W.rg r (cD O.ri)).cl Z;have fin:∃f j',Value.pointer (some ⟨e,j,none⟩)= .pointer (some ⟨f,j',none⟩)/\ad [] w w2.drew/\∀a,ad [] w a->WordAt a g m F h n f j':=⟨e,j,rfl,H,J⟩
 have C:hp w2.drew Q=some (.cells (ba h).toArray 32):=b2;simp only[ac,ae,fa_99_4,ql,eX,hC,ld_97,aK,ag,aN,R4,R5,C,e2,e3,aj,O.jn,ap (n:=(j:Int)) dB dB];have ix:=c_iIndex (c:=cc) hR Y h.2.2.1;rw[O.ix]at ix;repeat' (with_reducible apply And.intro)
 all_goals
  refine ix.step ?_;simp only[ac,z,jC,aN,R5,C,e3,aj,O.jn,ap (n:=(j:Int)) dB dB,X,B];exact fin
section
variable{W w:World}{g g6 g7 g8 rN k:Nat}{m:dI}{F:Fp}{K:Nat}{o:eu}{h:eN}{d:qL}
theorem rsC_one(r:jI):(gw r).toArray.toList.all (·.oneCell')=true:=rfl
theorem eP{r:jI}{b:Nat}{e:TypeId}(hb:hp w b=some (.cells (gw r).toArray e)):gi prog 35 (bS b) w=some (.agg (gw r).toArray):=aR (t:=35) (c:=(gw r).toArray) ag_35 (show(Tryz.prog.info? 35).map (·.size)=some (gw r).toArray.size from sz_35) hb
theorem lh{r:jI}{b:Nat}{c:Array Value}{e:TypeId}(hb:hp w b=some (.cells c e))(a:c.size=8){L:World->Prop}:ck prog (Instr.storeAt 35 (bS b) (.agg (gw r).toArray)) w L=L (put w b (gw r).toArray e):=by
 rw[st_35 rfl (rsC_one r) (by rw[hb,bq];exact cr dB) (by rw[hb];exact a),hb];rfl
theorem l_must2(r:jI)(d:ad [] W w){b:Array Value}(c:hp w g8=some (.cells b 35))(e:b.size=8)(a:hp w rN=some (.cells (gw r).toArray 35))(f:W.heap.size<=g8):
  P17_2 (bS g8) (bS rN) w λv g=>v= .tuple #[.agg (gw r).toArray,.bool true]/\ad [] W g:=by
 apply L17_2_ok;simp only[L17_2,eP a,ac];rw[lh c e,eP (ar (aD c) _ _),ac];exact⟨rfl,d.put (.inr f) _ _⟩
theorem l_must1(O:ad [] W w)(I:kt w g m F)(P:Wf m K)(Q:K<=1000000)(L:hp w g6=some (.cells (cI o).toArray 37))(S:hp w g7=some (.cells (ba h).toArray 32)){c8:Array Value}(T:hp w g8=some (.cells c8 35))(U:c8.size=8)(l:hp w rN=some (.cells (gw lR).toArray 35))
  (V:W.heap.size<=g8) (X:W.heap.size<=rN) (E:g8≠rN) (Y:bI m d o h=0) (n0:0<=o.2.2.2.1) {t:Bool} (ht:t=decide (o.1=6\/o.1=8)):
  P17_1 (bS g) (bS g6) (bS g7) (bS g8) (bS rN) (bN o.1) (.bool t) w λv n=>v= .tuple #[.agg (gw (eO m o h)).toArray,.bool true]/\ad [] W n:=by
 apply L17_1_ok;have x:∀n,hp n g7=some (.cells (ba h).toArray 32)->gi prog 32 (bS g7) n=some (.agg (ba h).toArray):=λn H=>aR (t:=32) (c:=(ba h).toArray) qJ (show(Tryz.prog.info? 32).map (·.size)=some (ba h).toArray.size from lP) H;have Z:hp w.drew g6=some (.cells (cI o).toArray 37):=L;have a1:hp w.drew g7=some (.cells (ba h).toArray 32):=S;have cd:ad [] w w.drew:=(ad.refl _ _).drew;have fin:∀(r:jI) (k:Nat) (v:Value) (b:World),ad [] w b->(gw lR).toArray.setIfInBounds k v=(gw r).toArray->eO m o h=r->
   P17_2 (bS g8) (bS rN) (put b rN ((dL (hp b rN)).setIfInBounds k v) (dM (hp b rN))) λv n=>v= .tuple #[.agg (gw (eO m o h)).toArray,.bool true]/\ad [] W n:=by
  intro r k v b a he hm;have u:=a.at l (by simp);rw[u,aB,au,he,hm];exact l_must2 r ((O.trans a).put (.inr X) _ _) (by rw[bj E];exact a.at T (by simp)) U (ar (aD u) _ _) V
 have y:∀(b:World) (k:Nat),ad [] w b->k<=8->pY (hp b rN) k=true:=λb k a hk=>by rw[a.at l (by simp),bq];exact cr hk
 by_cases f:o.1=6\/o.1=8
 ·have z:t=true:=by rw[ht];exact cr f
  subst z;obtain⟨t1,t2⟩:=pH Y dB dB;simp only[L17_1,zS,x _ S,bc,ag,L,lV];refine(c_mWord I P Q t1 n0 t2).mono ?_;rintro _ b ⟨g2,j,rfl,a,H⟩;have A:=H b a;simp only[zS,br,A.ld,fa_35_3];rw[nG rfl rfl (y _ _ a dB)];exact fin (0,kJ,0,gP m h o.2.2.2.1) _ _ _ a rfl (by rw[eO,bU f])
 have z:t=false:=by rw[ht];exact bZ f
 subst z;by_cases B:o.1=9
 ·have q9:(o.1==9)=true:=by rw[B];rfl
  obtain⟨t1,t2⟩:=pH Y dB dB;have three:∀b,ad [] w b->P17_3 (bS g8) (bS rN) (.bool (gP m h o.2.2.2.1==o.2.2.2.2.1)) b λv n=>v= .tuple #[.agg (gw (eO m o h)).toArray,.bool true]/\ad [] W n:=by
   intro b a;apply L17_3_ok;by_cases p:gP m h o.2.2.2.1=o.2.2.2.2.1
   ·have e:(gP m h o.2.2.2.1==o.2.2.2.2.1)=true:=by rw[p];exact beq_self_eq_true _
    simp only[L17_3,e,bE,fa_35_2,ac];rw[gB rfl rfl (y _ _ a dB)];exact fin (0,kJ,1,0) _ _ _ a rfl (by rw[eO,bV f,bU B,bU p])
   ·simp only[L17_3,aW p,bf];have e:eO m o h=lR:=by rw[eO,bV f,bU B,bV p];rfl
    rw[e];exact l_must2 lR (O.trans a) (a.at T (by simp)) U (a.at l (by simp)) V
  simp only[L17_1,zS,q9,x _ a1,bc,fr,ag,br,Z,L,lV,pA];have cw:=c_mWord (I.ao cd) P Q t1 n0 t2;repeat' (with_reducible apply And.intro)
  all_goals
   refine cw.mono ?_;rintro _ b ⟨g2,j,rfl,a,H⟩;have A:=H b a;have a2:=(cd.trans a).at L (by simp);simp only[zS,br,A.ld,a2,pA];exact three b (cd.trans a)
 by_cases q:o.1=12
 ·have a3:(o.1==12)=true:=by rw[q];rfl
  obtain⟨i,r,hf,C,_,_⟩:=pI Y dB;obtain⟨s,rv,hh,M⟩:=I.rd;simp only[L17_1,zS,aW B,a3,x _ S];refine(kD h w).mono ?_;rintro _ w1 ⟨rfl,c1⟩;refine(sL (M.ao c1) (h.1,h.2.1) (cU P.rl Q)).mono ?_;rintro v w2 ⟨c2,p⟩;have D:=c1.trans c2;have a4:ec m.rgs (h.1,h.2.1)=some i:=hf;rw[a4]at p;rcases p with⟨p,_⟩|⟨i',rg,b',c',a5,J,a6,rfl⟩
  ·cases p
  cases a5;rw[C]at J;cases J;obtain⟨G,hG⟩:=(M.ao D).rT;obtain⟨a7,a8,hx,cv,wv,ov,R⟩:=rg_at hG C;rw[a6]at hx;cases hx;simp only[zS,fa_99_2,fa_35_2,ag,R.c3];rw[gB rfl rfl (y _ _ D dB)];exact fin (0,kJ,r.off,0) _ _ _ D rfl (by
   rw[eO,bV f,bV B,bU q,rgOf,hf];simp only[Option.bind_some,C])
 ·simp only[L17_1,zS,aW B,aW q];have e:eO m o h=lR:=by rw[eO,bV f,bV B,bV q]
  rw[e];exact l_must2 lR O T U l V
theorem c_mMust{w:World}{g:Nat}{m:dI}{F:Fp}{K:Nat}(I:kt w g m F)(Y:Wf m K)(Z:K<=1000000)(n:Int)(o:eu)(h:eN):
  aa prog 17 [bS g,bN n,.agg (cI o).toArray,.agg (ba h).toArray] w λv a=>v= .tuple #[.agg (gw (eG m n o h).1).toArray,.bool (eG m n o h).2]/\ad [] w a:=by
 apply F17_ok;obtain⟨s,rv,hh,M⟩:=I.rd;simp only[F17,ak,aq,al_35,ah];generalize b:((w.alloc (.cells (cI o).toArray 37)).alloc _).alloc _=w1;have c1:ad [] w w1:=by rw[<- b];exact(((ad.refl _ _).alloc _).alloc _).alloc _
 have b6:hp w1 w.heap.size=some (.cells (cI o).toArray 37):=by rw[<- b,af,ah,ah,bV dB,af,ah,bV dB,af,bU rfl]
 have b7:hp w1 (w.heap.size+1)=some (.cells (ba h).toArray 32):=by rw[<- b,af,ah,ah,bV dB,af,ah,bU rfl]
 have b8:hp w1 (w.heap.size+1+1)=some (.cells (gw lR).toArray 35):=by rw[<- b,af,ah,ah,bU rfl];rfl
 clear b;have B:∀a,hp a w.heap.size=some (.cells (cI o).toArray 37)->gi prog 37 (bS w.heap.size) a=some (.agg (cI o).toArray):=λa b=>aR (t:=37) (c:=(cI o).toArray) td (show(Tryz.prog.info? 37).map (·.size)=some (cI o).toArray.size from nC) b;have R:∀a,hp a (w.heap.size+1)=some (.cells (ba h).toArray 32)->gi prog 32 (.pointer (some ⟨w.heap.size+1,0,none⟩)) a=some (.agg (ba h).toArray):=λa b=>aR (t:=32) (c:=(ba h).toArray) qJ (show(Tryz.prog.info? 32).map (·.size)=some (ba h).toArray.size from lP) b;simp only[ac,B _ b6];refine(c_mMay (M.ao c1) n o).mono ?_;rintro _ w2 ⟨rfl,H⟩;have p:=c1.trans H;have d6:=H.at b6 (by simp);have d7:=H.at b7 (by simp);have S:=H.at b8 (by simp);have l:∀(L:Array Value->Prop),L (gw lR).toArray->L #[(Go.Value.int Go.IntKind.i64 0),(Go.Value.int Go.IntKind.i64 0),(Go.Value.int Go.IntKind.i64 0),(Go.Value.int Go.IntKind.i64 0),(Go.Value.int Go.IntKind.i64 0),(Go.Value.int Go.IntKind.i64 0),(Go.Value.int Go.IntKind.i64 0),(Go.Value.int Go.IntKind.u64 0)]:=λL h=>h;cases C:lK m n o with
 |false=>
  simp only[zS,bd_35_];refine l (λz=>ck prog (Instr.storeAt 35 _ (.agg z)) _ _) ?_;rw[lh S rfl,eP (ar (aD S) _ _),ac];exact⟨by rw[eG,bU C],p.put (.inr dB) _ _⟩
 |true=>
  obtain⟨n0,n1,n2⟩:=may_n C;obtain⟨d,T⟩:=may_hd C;simp only[zS,B _ d6,R _ d7];refine(c_mRefuses (M.ao p) (Y.small Z) n0 T o h).mono ?_;rintro _ y ⟨rfl,J⟩;have D:=p.trans J;have f6:=J.at d6 (by simp);have f7:=J.at d7 (by simp);have f8:=J.at S (by simp);have s3:=D.size;simp only[zS,bd_35_0];have r:∀(L:Array Value->Prop),L (gw (bn (bI m d o h))).toArray->L #[(bN (bI m d o h)),(Go.Value.int Go.IntKind.i64 0),(Go.Value.int Go.IntKind.i64 0),(Go.Value.int Go.IntKind.i64 0),(Go.Value.int Go.IntKind.i64 0),(Go.Value.int Go.IntKind.i64 0),(Go.Value.int Go.IntKind.i64 0),(Go.Value.int Go.IntKind.u64 0)]:=λL h=>h;refine r (λz=>ck prog (Instr.storeAt 35 _ (.agg z)) _ _) ?_;rw[lh (c:=(gw lR).toArray) (e:=35) (by rw[af,bU rfl];rfl) rfl];generalize u:put (y.alloc _) y.heap.size _ _=O;have P:ad [] y O:=by rw[<- u];exact((ad.refl _ _).alloc _).put (.inr (cy _)) _ _
  have i:hp O y.heap.size=some (.cells (gw (bn (bI m d o h))).toArray 35):=by rw[<- u];exact ar (by simp) _ _
  clear u;have j:=D.trans P;have a6:=P.at f6 (by simp);have a7:=P.at f7 (by simp);have E:=P.at f8 (by simp);have r0:(gw (bn (bI m d o h))).toArray[0+0]? =some (bN (bI m d o h)):=rfl;have a1:=aD f8;by_cases A:bI m d o h=0
  ·have U:(bI m d o h !=0)=false:=by rw[A];rfl
   have V:eG m n o h=if o.1=1\/o.1=2 then(lR,false)else(eO m o h,true):=by
    rw[eG,bV (by rw[C];simp),T];simp only[A,ne_eq,not_true_eq_false,if_false]
   have G:hp O y.heap.size=some (.cells (gw lR).toArray 35):=by rw[i,A];rfl
   simp only[zS,kR,jd,i,r0,U,am,ag,a6,aJ];have zero:∀t:Bool,t=decide (o.1=1\/o.1=2)->P17_0 (bS g) (bS w.heap.size) (.pointer (some ⟨w.heap.size+1,0,none⟩)) (.pointer (some ⟨w.heap.size+1+1,0,none⟩)) (bS y.heap.size) (bN o.1) (.bool t) O
     λv a=>v= .tuple #[.agg (gw (eG m n o h).1).toArray,.bool (eG m n o h).2]/\ad [] w a:=by
    intro t Q;apply L17_0_ok;rw[V];by_cases k:o.1=1\/o.1=2
    ·have x:t=true:=by rw[Q];exact cr k
     subst x;rw[bU k];simp only[L17_0,zS,bd_35_];refine l (λz=>ck prog (Instr.storeAt 35 _ (.agg z)) _ _) ?_;rw[lh E rfl,eP (ar (aD E) _ _),ac];exact⟨rfl,j.put (.inr dB) _ _⟩
    ·have x:t=false:=by rw[Q];exact bZ k
     subst x;rw[bV k];have one:∀t:Bool,t=decide (o.1=6\/o.1=8)->_:=λt Q=>l_must1 (W:=w) j (I.ao j) Y Z a6 a7 E rfl G dB dB dB A n2 Q;by_cases X:o.1=6
     ·have q:(o.1==6)=true:=by rw[X];rfl
      have f:=one true (by rw[X];rfl);simp only[L17_0,zS,q];exact f
     ·have f:=one (o.1==8) (by
       by_cases k8:o.1=8
       ·rw[k8];rfl
       ·rw[aW k8];exact(bZ dB).symm)
      simp only[L17_0,zS,aW X];exact f
   by_cases k1:o.1=1
   ·have q:(o.1==1)=true:=by rw[k1];rfl
    have f:=zero true (by rw[k1];rfl);simp only[zS,q];exact f
   ·have f:=zero (o.1==2) (by
     by_cases k2:o.1=2
     ·rw[k2];rfl
     ·rw[aW k2];exact(bZ dB).symm)
    simp only[zS,aW k1];exact f
  ·have U:(bI m d o h !=0)=true:=bne_iff_ne.2 A;have V:eG m n o h=(bn (bI m d o h),true):=by
    rw[eG,bV (by rw[C];simp),T];simp only;rw[bU A]
   simp only[zS,kR,jd,i,r0,U];rw[eP i,ac,lh E rfl,eP (ar (aD E) _ _),ac,V];exact⟨rfl,j.put (.inr dB) _ _⟩
end
theorem Ev.aO.pre{F d:Fp}{a b c:World}(k:ad [] a b)(u:aO F d b c):aO F d a c:=(aO.bL k).trans u
theorem Ev.aO.post{F d:Fp}{a b c:World}(u:aO F d a b)(k:ad [] b c):aO F d a c:=u.trans (aO.bL k)
theorem l0{e:TypeId}{z n m:Nat}{us vs:List Value}{w b:World}{F:Fp}{x x':Value}(h:aZ e z n (us.map kY) w F x)(i:b.ownsRow 0 e z x' m (us++vs))(a:w.grownBy b x.ownBlock)(c:hI w x x'):
  ∃f,aZ e z m ((us++vs).map kY) b f x'/\aO F f w b:=by
 obtain⟨xs,l,_,_,_,g⟩:=h;refine⟨_,pC i,⟨a.os,a.tape,a.output,a.size,λk d j=>a.block k d λe=>j ((g k).2 (.inl e.symm))⟩,λk d=>?_⟩;rcases c k d with h5|h5
 ·exact .inl ((g k).2 (.inl h5))
 ·exact .inr h5
theorem slots_at{m:dI}{n:iH}(h:ft m n=true):0<=n.1/\n.1<m.slots.length/\m.slots[n.1.toNat]? =some (1,n.2):=by
 simp only[ft,cZ,decide_eq_true_eq]at h;exact⟨h.1.1,h.1.2,h.2⟩
section
variable{W w:World}{g g6 g7 g9 b k:Nat}{m:dI}{F:Fp}{K:Nat}{o:eu}{h:eN}{d:qL}{n:Int}
theorem kt.depthSet(I:kt w g m F)(l:m.hands[n.toNat]? =some d)(x:Int):
  ∃b c,an (hp w g) (0+9)=some (.slice (some ⟨b,0,none⟩) m.hands.length c)/\b≠g/\an (hp w b) (n.toNat*2+0)=some (bN d.depth)/\pY (hp w b) (n.toNat*2+0+1)=true/\
   ∃i,kt (put w b ((dL (hp w b)).setIfInBounds (n.toNat*2+0) (bN x)) (dM (hp w b))) g (gA m n {d with depth:=x}) i/\aO F i w (put w b ((dL (hp w b)).setIfInBounds (n.toNat*2+0) (bN x)) (dM (hp w b))):=by
 obtain⟨b,c,v,s,o,_,_,_,a,e,j,f⟩:=I.hdCell l (k:=0) (P:=iT d.depth) dB rfl;obtain⟨ok,p,q,r⟩:=f w cL (iT x) (bN x) {d with depth:=x} (aO.none j.2 w) (fe _ _) ⟨rfl,λ_ h=>h⟩ rfl;exact⟨b,c,o,a,by rw[e,j.1],ok,p,q,r⟩
theorem l_does0(E:ad [] W w)(I:kt w g m F)(Wm:Wf m K)(hK:K<=1000000)(B:hp w g6=some (.cells (cI o).toArray 37))(h7:hp w g7=some (.cells (ba h).toArray 32))(h9:hp w g9=some (.cells (gD (dO h)).toArray 96))
  (hd:m.hands[n.toNat]? =some d) (hr:bI m d o h=0) (n0:0<=o.2.2.2.1) {c:Nat} (hb:an (hp w g) (0+9)=some (.slice (some ⟨b,0,none⟩) m.hands.length c)):
  P42_0 (bS g) (bS g6) (bS g7) (.pointer (some ⟨b,n.toNat*2,none⟩)) (bS g9) w λv Q=>v= .tuple #[]/\∃F',kt Q g (fD m n o h) F'/\aO F F' W Q:=by
 apply L42_0_ok;have dv:fD m n o h=if o.1=3 then gA m n {d with depth:=d.depth+1}
  else if o.1=4 then gA m n (if d.depth-1=0 then{depth:=0,holds:= []}else{d with depth:=d.depth-1})
  else if o.1=5 then(if eI d h then m else gA m n {d with holds:=d.holds++ [dO h]})
  else if o.1=7 then dU m h o.2.2.2.1 o.2.2.2.2.1
  else if o.1=8 then dU m h o.2.2.2.1 (IntKind.u64.wrap (gP m h o.2.2.2.1+o.2.2.2.2.1))
  else if o.1=9 then(if gP m h o.2.2.2.1=o.2.2.2.2.1 then dU m h o.2.2.2.1 o.2.2.2.2.2 else m)
  else if o.1=10 then(match m.slots[h.1.toNat]? with|some p=>{m with slots:=m.slots.set h.1.toNat (if m.loose then 0 else 2,p.2)}|none=>m)
  else m:=by rw[fD,hd]<;>rfl
 have hD:=Wm.hd d (cD hd);have e4:=(jv hr).2;have a3:∀Q,hp Q g7=some (.cells (ba h).toArray 32)->gi prog 32 (bS g7) Q=some (.agg (ba h).toArray):=λQ T=>aR (t:=32) (c:=(ba h).toArray) qJ (show(Tryz.prog.info? 32).map (·.size)=some (ba h).toArray.size from lP) T;have a9:∀Q,hp Q g9=some (.cells (gD (dO h)).toArray 96)->gi prog 96 (bS g9) Q=some (.agg (gD (dO h)).toArray):=λQ T=>aR (t:=96) (c:=(gD (dO h)).toArray) ag_96 (show(Tryz.prog.info? 96).map (·.size)=some (gD (dO h)).toArray.size from sz_96) T;have R:ad [] w w.drew:=(ad.refl _ _).drew;have b4:hp w.drew g6=some (.cells (cI o).toArray 37):=B;have b5:hp w.drew g7=some (.cells (ba h).toArray 32):=h7;have c8:hp w.drew g9=some (.cells (gD (dO h)).toArray 96):=h9;by_cases a:o.1=3
 ·have q:(o.1==3)=true:=by rw[a];rfl
  obtain⟨b',c',u,b6,s,ok,G,f,C⟩:=I.depthSet hd (d.depth+1);rw[hb]at u;cases u;simp only[L42_0,zS,am,ag,B,aJ,q,jK,s,aj,ap (n:=d.depth+1) dB dB];rw[gB (o:=n.toNat*2+0) rfl rfl ok,dv,bU a];exact⟨by first|rfl|trivial,G,f,C.pre E⟩
 by_cases y:o.1=4
 ·have q:(o.1==4)=true:=by rw[y];rfl
  obtain⟨b',c',u,b6,s,ok,G,f,C⟩:=I.depthSet hd (d.depth-1);rw[hb]at u;cases u;simp only[L42_0,zS,am,ag,B,aJ,aW a,q,jK,s,aH,ap (n:=d.depth-1) dB dB];rw[gB (o:=n.toNat*2+0) rfl rfl ok,dv,bV a,bU y];have c9:an (hp (put w b ((dL (hp w b)).setIfInBounds (n.toNat*2+0) (bN (d.depth-1))) (dM (hp w b))) g) (0+9)=some (.slice (some ⟨b,0,none⟩) m.hands.length c):=by rw[bj (Ne.symm b6)];exact hb
  generalize put w b ((dL (hp w b)).setIfInBounds (n.toNat*2+0) (bN (d.depth-1))) (dM (hp w b))=w1 at*;have b7:(gA m n {d with depth:=d.depth-1}).hands[n.toNat]? =some {d with depth:=d.depth-1}:=by
   show(m.hands.set n.toNat _)[n.toNat]? =_;rw[cR,bU rfl,bU (bY.1 hd).1]
  have a4:(gA m n {d with depth:=d.depth-1}).hands.length=m.hands.length:=by simp[gA]
  obtain⟨b2,c2,v2,e5,H,_,_,_,_,e3,e6,b8⟩:=f.hdCell b7 (k:=1) (P:=nI d.holds) dB rfl;obtain⟨b3,J,b9,_,a1,_⟩:=f.depthSet b7 0;rw[a4,c9]at H b9;cases H;cases b9;by_cases hz:d.depth-1=0
  ·have e:(d.depth-1==0)=true:=by rw[hz];rfl
   simp only[zS,rr,a1,e];obtain⟨L,F2,h3,h4⟩:=b8 w1 cL (nI []) (.slice none 0 0) {depth:=0,holds:= []} ⟨bl.refl _ _,λk hk=>hk.elim⟩ (nJ _) aZ.nil (by
    rw[hz];rfl)
   rw[st_134 (o:=n.toNat*2+1) rfl rfl L,bU hz];have e2:gA m n {depth:=0,holds:= []}={gA m n {d with depth:=d.depth-1}with hands:=(gA m n {d with depth:=d.depth-1}).hands.set n.toNat {depth:=0,holds:= []}}:=by
    simp[gA,List.set_set]
   rw[e2];exact⟨by first|rfl|trivial,F2,h3,(C.trans h4).pre E⟩
  ·simp only[zS,a1,aW hz];rw[bV hz];exact⟨by first|rfl|trivial,G,f,C.pre E⟩
 by_cases D:o.1=5
 ·have q:(o.1==5)=true:=by rw[D];rfl
  obtain⟨b',c',v,Fk,u,_,_,_,_,s,U,_⟩:=(I.ao R).hdCell hd (k:=1) (P:=nI d.holds) dB rfl;rw[show an (hp w.drew g) (0+9)=_ from hb]at u;cases u;obtain⟨A,ca,rfl,hR⟩:=names_sh ⟨_,U⟩;simp only[L42_0,zS,am,ag,B,aJ,aW a,aW y,q,rr,ld_134,show an (hp w b) (n.toNat*2+1)=_ from s,a9 _ c8];refine(c_nContains (c:=ca) hR dB (dO h)).mono ?_;rintro _ w1 ⟨rfl,c1⟩;have V:=R.trans c1;rw[dv,bV a,bV y,bU D];cases hh:eI d h with
  |true=>
   have a5:decide (dO h∈d.holds)=true:=hh;simp only[zS,a5,if_true];exact⟨by first|rfl|trivial,F,I.ao V,(aO.bL (E.trans V))⟩
  |false=>
   have a5:decide (dO h∈d.holds)=false:=hh;have a6:ad [] w w1.drew:=V.drew;obtain⟨b',c',v,Fk,u,_,_,_,_,s,U,d1⟩:=(I.ao a6).hdCell hd (k:=1) (P:=nI d.holds) dB rfl;rw[ff a6 hb]at u;cases u;have d2:hp w1.drew g9=some (.cells (gD (dO h)).toArray 96):=V.at h9 (by simp);simp only[zS,a5,show an (hp w1 b) (n.toNat*2+1)=_ from s,a9 _ d2,Bool.false_eq_true,if_false];obtain⟨O,_⟩:=gN U;refine ps_134 (by simp) O dB (cQ _) λx' w2 ho hg d3=>?_;rw[show d.holds.flatMap gD++ [Value.int .i64 (dO h).1,Value.int .i64 (dO h).2]=(d.holds++ [dO h]).flatMap gD by simp[gD]]at ho;have d4:aZ 96 2 d.holds.length ((d.holds.flatMap gD).map kY) w1.drew Fk v:=U;obtain⟨F2,d5,d6⟩:=l0 (vs:=gD (dO h)) d4 (by simpa [gD]using ho) hg d3;have a2:nI (d.holds++ [dO h]) w2 F2 x':=by
    rw[nI,cq];have e:(d.holds++ [dO h]).flatMap gD=d.holds.flatMap gD++gD (dO h):=by simp
    rw[e];exact d5
   obtain⟨L,F3,h3,h4⟩:=d1 w2 F2 (nI (d.holds++ [dO h])) x' {d with holds:=d.holds++ [dO h]} d6 (nJ _) a2 rfl;have one:=(nJ _).one a2;rw[st_134 (o:=n.toNat*2+1) one.1 one.2 L];exact⟨by first|rfl|trivial,F3,h3,h4.pre (E.trans a6)⟩
 by_cases S:o.1=7
 ·have q:(o.1==7)=true:=by rw[S];rfl
  obtain⟨t1,t2⟩:=pH hr dB dB;have cw:=c_mWord (I.ao R) Wm hK t1 n0 t2;simp only[L42_0,zS,am,bc,fr,ag,br,B,b4,aJ,lV,pA,aW a,aW y,aW D,q,a3 _ b5];rw[dv,bV a,bV y,bV D,bU S];repeat' (with_reducible apply And.intro)
  all_goals
   refine cw.mono ?_;rintro _ w3 ⟨g2,j,rfl,J,T⟩;have A:=T w3 J;have z:=(R.trans J).at B (by simp);simp only[zS,z,pA];rw[nG rfl rfl A.ok];obtain⟨G,f,C⟩:=A.st o.2.2.2.2.1;exact⟨by first|rfl|trivial,G,f,C.pre (E.trans (R.trans J))⟩
 by_cases k8:o.1=8
 ·have q:(o.1==8)=true:=by rw[k8];rfl
  obtain⟨t1,t2⟩:=pH hr dB dB;have cw:=c_mWord (I.ao R) Wm hK t1 n0 t2;simp only[L42_0,zS,am,bc,fr,ag,br,B,b4,aJ,lV,pA,aW a,aW y,aW D,aW S,q,a3 _ b5];rw[dv,bV a,bV y,bV D,bV S,bU k8];repeat' (with_reducible apply And.intro)
  all_goals
   refine cw.mono ?_;rintro _ w3 ⟨g2,j,rfl,J,T⟩;have A:=T w3 J;have z:=(R.trans J).at B (by simp);simp only[zS,br,z,pA,A.ld,aj];rw[nG rfl rfl A.ok];obtain⟨G,f,C⟩:=A.st (IntKind.u64.wrap (gP m h o.2.2.2.1+o.2.2.2.2.1));exact⟨by first|rfl|trivial,G,f,C.pre (E.trans (R.trans J))⟩
 by_cases k9:o.1=9
 ·have q:(o.1==9)=true:=by rw[k9];rfl
  obtain⟨t1,t2⟩:=pH hr dB dB;simp only[L42_0,zS,am,bc,fr,ag,br,B,aJ,lV,aW a,aW y,aW D,aW S,aW k8,q,a3 _ h7];rw[dv,bV a,bV y,bV D,bV S,bV k8,bU k9];refine(c_mWord I Wm hK t1 n0 t2).mono ?_;rintro _ w3 ⟨g2,j,rfl,J,T⟩;have X:ad [] w w3.drew:=J.drew;have A:=T w3.drew X;have z:=J.at B (by simp);by_cases U:gP m h o.2.2.2.1=o.2.2.2.2.1
  ·have e:(gP m h o.2.2.2.1==o.2.2.2.2.1)=true:=by rw[U];exact beq_self_eq_true _
   simp only[zS,br,mh,z,pA,op_5,show an (hp w3 g2) j=_ from A.ld,e];rw[nG rfl rfl A.ok,bU U];obtain⟨G,f,C⟩:=A.st o.2.2.2.2.2;exact⟨by first|rfl|trivial,G,f,C.pre (E.trans X)⟩
  ·simp only[zS,br,z,pA,show an (hp w3 g2) j=_ from A.ld,aW U];rw[bV U];exact⟨by first|rfl|trivial,F,I.ao X,aO.bL (E.trans X)⟩
 by_cases Y:o.1=10
 ·have q:(o.1==10)=true:=by rw[Y];rfl
  obtain⟨i,r,hf,e7,e8,d7⟩:=pI hr dB;obtain⟨s0,s1,s2⟩:=slots_at d7;have a7:m.slots[h.1.toNat]? =some (1,h.2.1):=s2;have e9:0<=h.1:=s0;have f2:h.1<m.slots.length:=s1;obtain⟨b1,c1,u,ok,G,f,C⟩:=(I.ao R).slotSet a7 (p':=(2,h.2.1)) (k:=0) (x:=2) dB rfl;have ia:=ia_86 (b:=b1) (p:=0) (n:=m.slots.length) (c:=c1) (j:= .i64) (i:=h.1) dB dB;rw[cM]at ia;have e0:(ba h).toArray[0+0]? =some (bN h.1):=rfl;simp only[L42_0,zS,am,ag,B,aJ,aW a,aW y,aW D,aW S,aW k8,aW k9,q,mj,tf,show an (hp w g) (0+7)=_ from u,bu,h7,e0,ia,kT];rw[gB (o:=h.1.toNat*2+0) rfl rfl ok,dv,bV a,bV y,bV D,bV S,bV k8,bV k9,bU Y,a7];have u1:=C.pre (E.trans R);have d8:hp (put w.drew b1 ((dL (hp w.drew b1)).setIfInBounds (h.1.toNat*2+0) (bN 2)) (dM (hp w.drew b1))) g7=some (.cells (ba h).toArray 32):=by
   rw[bj]
   ·exact h7
   ·intro e;subst e;rw[show hp w.drew g7=_ from h7,bq,decide_eq_true_eq]at ok;obtain⟨sv,_,_,M⟩:=I.rd;obtain⟨A',c',d9,f3⟩:=pD M.sT;have c4:=M.sl;rw[show an (hp w g) (0+7)=_ from u]at c4;cases c4;cases d9;have O:=(gN M.sT.choose_spec).1;rcases O.2 with⟨hx,_⟩|⟨gg,cap,f4,hx,_,c5,_⟩
    ·cases hx
    ·cases hx;have e1:w.heap[g7]? =some (.cells (ba h).toArray 32):=h7;rw[e1]at c5;cases c5
  generalize put w.drew b1 ((dL (hp w.drew b1)).setIfInBounds (h.1.toNat*2+0) (bN 2)) (dM (hp w.drew b1))=w1 at*;obtain⟨_,_,_,M1⟩:=f.rd;have ml:=M1.l;by_cases Z:m.loose=true
  ·rw[show({m with slots:=m.slots.set h.1.toNat (2,h.2.1)}:dI).loose=true from Z]at ml;have c6:ad [] w1 w1.drew:=(ad.refl _ _).drew;have s3:({m with slots:=m.slots.set h.1.toNat (2,h.2.1)}:dI).slots[h.1.toNat]? =some (2,h.2.1):=by
    show(m.slots.set _ _)[_]? =_;rw[cR,bU rfl,bU (bY.1 a7).1]
   obtain⟨b2,c2,H,L,F2,h3,h4⟩:=(f.ao c6).slotSet s3 (p':=(0,h.2.1)) (k:=0) (x:=0) dB rfl;have a4:({m with slots:=m.slots.set h.1.toNat (2,h.2.1)}:dI).slots.length=m.slots.length:=by simp
   rw[a4]at H;have c7:=ia_86 (b:=b2) (p:=0) (n:=m.slots.length) (c:=c2) (j:= .i64) (i:=h.1) dB dB;rw[cM]at c7;simp only[zS,fa_90_1,az,ml,show an (hp w1 g) (0+7)=_ from H,d8,e0,c7,kT,Z,if_true];rw[gB (o:=h.1.toNat*2+0) rfl rfl L];have e2:({m with slots:=m.slots.set h.1.toNat (0,h.2.1)}:dI)={({m with slots:=m.slots.set h.1.toNat (2,h.2.1)}:dI)with slots:=({m with slots:=m.slots.set h.1.toNat (2,h.2.1)}:dI).slots.set h.1.toNat (0,h.2.1)}:=by simp[List.set_set]
   rw[<- e2,Z]at h3;exact⟨by first|rfl|trivial,F2,h3,u1.trans (h4.pre c6)⟩
  ·have a8:m.loose=false:=by simpa using Z
   rw[show({m with slots:=m.slots.set h.1.toNat (2,h.2.1)}:dI).loose=false from a8]at ml;simp only[zS,fa_90_1,az,ml,a8,Bool.false_eq_true,if_false];rw[a8]at f;exact⟨by first|rfl|trivial,G,f,u1⟩
 ·simp only[L42_0,zS,am,ag,B,aJ,aW a,aW y,aW D,aW S,aW k8,aW k9,aW Y];rw[dv,bV a,bV y,bV D,bV S,bV k8,bV k9,bV Y];exact⟨by first|rfl|trivial,F,I,aO.bL E⟩
theorem c_mDoes(I:kt w g m F)(O:Wf m K)(P:K<=1000000)(Q:lK m n o=true)(H:m.hands[n.toNat]? =some d)(R:bI m d o h=0):
  aa prog 42 [bS g,bN n,.agg (cI o).toArray,.agg (ba h).toArray] w λv a=>v= .tuple #[]/\∃y,kt a g (fD m n o h) y/\aO F y w a:=by
 apply F42_ok;obtain⟨Y,Z,S⟩:=may_n Q;simp only[F42,ak,aq,ah];generalize u:(w.alloc (.cells (cI o).toArray 37)).alloc _=w1;have z:ad [] w w1:=by rw[<- u];exact((ad.refl _ _).alloc _).alloc _
 have T:hp w1 w.heap.size=some (.cells (cI o).toArray 37):=by rw[<- u,af,ah,bV dB,af,bU rfl]
 have J:hp w1 (w.heap.size+1)=some (.cells (ba h).toArray 32):=by rw[<- u,af,ah,bU rfl]
 clear u;generalize w.heap.size=g6 at*;have C:∀a,hp a (g6+1)=some (.cells (ba h).toArray 32)->gi prog 32 (.pointer (some ⟨g6+1,0,none⟩)) a=some (.agg (ba h).toArray):=λa u=>aR (t:=32) (c:=(ba h).toArray) qJ (show(Tryz.prog.info? 32).map (·.size)=some (ba h).toArray.size from lP) u;obtain⟨_,_,L,M⟩:=I.rd;obtain⟨Fh,U⟩:=M.hT;obtain⟨b,c,V,_⟩:=hd_at U H;have hb:=M.hl;rw[V]at hb;have cd:ad [] w w1.drew:=z.drew;have D:hp w1.drew (g6+1)=some (.cells (ba h).toArray 32):=J;have l:=λa (k:ad [] w a)=>ff k hb;have A:=ia_88 (b:=b) (p:=0) (n:=m.hands.length) (c:=c) (j:= .i64) (i:=n) dB dB;rw[cM]at A;have nm:∀(a:World) {K:Value->World->Prop},(∀ q,ad [] a q->K (.agg (gD (dO h)).toArray) q)->aa prog 41 [.agg (ba h).toArray] a K:=λa K W=>(kD h a).mono λv q L=>by obtain⟨rfl,X⟩:=L;exact W q X
 have r:∀f,ad [] w1 f->∀t:Nat,w1.heap.size<=t->hp f t=some (.cells #[bN 0,bN 0] 96)->
   ck prog (Instr.storeAt 96 (bS t) (.agg (gD (dO h)).toArray)) f λa=>
   P42_0 (bS g) (bS g6) (.pointer (some ⟨g6+1,0,none⟩)) (.pointer (some ⟨b,n.toNat*2,none⟩)) (bS t) a λv a=>v= .tuple #[]/\∃y,kt a g (fD m n o h) y/\aO F y w a:=by
  intro f x t E B;rw[st_96 (by rfl) (by rfl) (by rw[B];rfl) (by rw[B];rfl),B];simp only[au];have G:ad [] w1 (put f t (gD (dO h)).toArray 96):=x.put (.inr E) _ _;have s:=z.trans G;exact l_does0 s (I.ao s) O P (G.at T (by simp)) (G.at J (by simp)) (ar (aD B) _ _) H R S (l _ s)
 simp only[zS,fa_90_4,ld_88,show an (hp w1 g) (0+9)=_ from l _ z,A,C _ D,al_96];repeat' (with_reducible apply And.intro)
 all_goals first
  |(refine nm _ ?_
    intro f x;have e:ad [] w1 f:=(((ad.refl [] w1).drew).alloc _).trans x;try simp only[zS,l _ (z.trans e),A]
    exact r f e _ (cy _) (x.at (by rw[af,bU rfl]) (by simp)))
  |(refine nm _ ?_
    intro f x;have e:ad [] w1 f:=((ad.refl [] w1).drew).trans x;try simp only[zS,l _ (z.trans e),A]
    exact r _ (e.alloc _) _ e.size (by rw[af,bU rfl]))
end
section
variable{W w:World}{g g5 b i k:Nat}{m:dI}{F:Fp}{K:Nat}{r:fL}
theorem qu{e:TypeId}{z n:Nat}{x:Value}{xs d:List Value}{p q:Nat}(h:w.ownsRow p e z x n xs)(k:w.ownsRow q e z x n d):xs=d:=by
 rcases h.2 with⟨rfl,rfl⟩|⟨g,cap,m,rfl,_,o,_,_,_,r⟩
 ·have f:=h.1;have i:=k.1;simp at f i;rw[f,i]
 ·rcases k.2 with⟨b,_⟩|⟨s,j,l,b,_,a,_,_,_,c⟩
  ·cases b
  ·cases b;rw[o]at a;cases a;rw[<- r,<-c]
theorem Ev.aO.ao{F a:Fp}{w w1:World}(u:aO F a w w1){x:Nat}{o:Obj}(b:hp w x=some o)(c:¬F x):hp w1 x=some o/\¬a x:=by
 refine⟨u.aF.at b c,λh=>?_⟩;rcases u.sub x h with h1|h1
 ·exact c h1
 ·have:=aD b;omega
theorem slots_blk(I:kt w g m F){n c:Nat}(i:an (hp w g) (0+7)=some (.slice (some ⟨b,0,none⟩) n c)):b≠g/\F b:=by
 obtain⟨v,o,p,f,a,d,j,_⟩:=eR.cell I (gO m) (k:=7) (P:=k0 m.slots) rfl;rw[show an (hp w g) 7=_ from i]at d;cases d;obtain⟨xs,q,_,_,_,l⟩:=j;have hb:=(l b).2 (.inl rfl);exact⟨λe=>f (by rw[<- e];exact hb),a b hb⟩
theorem st_slot{x y:Value}{o:Nat}{L:World->Prop}(a:x.oneCell'=true)(c:y.oneCell'=true)(d:x.cells= #[x])(e:y.cells= #[y])(ok:pY (hp w b) (o+2)=true):ck prog (Instr.storeAt 142 (.pointer (some ⟨b,o,none⟩)) (.agg #[x,y])) w L=L (put w b (((dL (hp w b)).setIfInBounds o x).setIfInBounds (o+1) y) (dM (hp w b))):=by
 exact kq (v:= .agg #[x,y]) sz_142 rfl (by show(List.all [x,y] _)=true;simp[a,c]) dC ok
theorem kt.slotSet2(I:kt w g m F){p p':iH}(d:m.slots[i]? =some p):
  ∃b c,an (hp w g) (0+7)=some (.slice (some ⟨b,0,none⟩) m.slots.length c)/\b≠g/\F b/\pY (hp w b) (i*2+2)=true/\
   ∃u,kt (put w b (((dL (hp w b)).setIfInBounds (i*2) (bN p'.1)).setIfInBounds (i*2+1) (bN p'.2)) (dM (hp w b))) g {m with slots:=m.slots.set i p'} u/\aO F u w (put w b (((dL (hp w b)).setIfInBounds (i*2) (bN p'.1)).setIfInBounds (i*2+1) (bN p'.2)) (dM (hp w b))):=by
 obtain⟨b,c,o,ok,B,y,v⟩:=I.slotSet d (p':=(p'.1,p.2)) (k:=0) (x:=p'.1) dB rfl;obtain⟨f,q⟩:=slots_blk I o;have r:({m with slots:=m.slots.set i (p'.1,p.2)}:dI).slots[i]? =some (p'.1,p.2):=by
  show(m.slots.set _ _)[_]? =_;rw[cR,bU rfl,bU (bY.1 d).1]
 obtain⟨C,D,j,a,z,l,n⟩:=y.slotSet r (p':=p') (k:=1) (x:=p'.2) dB rfl;have s:({m with slots:=m.slots.set i (p'.1,p.2)}:dI).slots.length=m.slots.length:=by simp
 rw[s,bj (Ne.symm f),o]at j;cases j;obtain⟨E,e,hb,A⟩:=okC_cases ok;have t:=aD hb;rw[hb]at l n a v;rw[aB,au,ar t]at l n a;rw[aB,au,m6]at l n;have es:({m with slots:=m.slots.set i p'}:dI)={({m with slots:=m.slots.set i (p'.1,p.2)}:dI)with slots:=({m with slots:=m.slots.set i (p'.1,p.2)}:dI).slots.set i p'}:=by simp[List.set_set]
 refine⟨b,c,o,f,q,?_,z,?_,?_⟩
 ·rw[hb,bq];rw[bq,decide_eq_true_eq]at a;simp at a;exact cr a
 ·rw[hb,es];exact l
 ·rw[hb];exact aO.trans v n
theorem kt.qM(I:kt w g m F){n c:Nat}(hb:an (hp w g) (0+8)=some (.slice (some ⟨b,0,none⟩) n c))(O:m.rgs[i]? =some r)(Q:k<7){P:Th}(R:(rgT r)[k]? =some P):
  ∃v l,(∀ x,l x->F x)/\F b/\¬l b/\an (hp w b) (i*7+k)=some v/\P w l v/\
   ∀w1 G o v' r',aO l G w w1->fR o->o w1 G v'->rgT r'=(rgT r).set k o->pY (hp w1 b) (i*7+k+1)=true/\v'.cells= #[v']/\v'.oneCell'=true/\
    an (hp (put w1 b ((dL (hp w1 b)).setIfInBounds (i*7+k) v') (dM (hp w1 b))) g) (0+8)=some (.slice (some ⟨b,0,none⟩) n c)/\
    ∃p,kt (put w1 b ((dL (hp w1 b)).setIfInBounds (i*7+k) v') (dM (hp w1 b))) g {m with rgs:=m.rgs.set i r'} p/\aO F p w (put w1 b ((dL (hp w1 b)).setIfInBounds (i*7+k) v') (dM (hp w1 b))):=by
 obtain⟨rv,Fr,Z,q,d,s,S,t,_⟩:=eR.cell I (gO m) (k:=8) (P:=mN m.rgs) rfl;have H:(m.rgs.flatMap rgT)[i*7+k]? =some P:=(bK qq m.rgs i r O k Q).trans R;obtain⟨b',c',v,l,J,y,K,a,z,T,h3,U⟩:=aZ.cell S (je m.rgs) H;rw[show an (hp w g) 8=_ from hb,J]at s;cases s;have L:b≠g:=λe=>q (by rw[<- e];exact y);refine⟨v,l,λx J=>d x (a x J),d b y,K,z,T,λw1 G o v' r' u A B M=>?_⟩;obtain⟨ok,p,f,C⟩:=U w1 G o v' u A B;rw[lY qq Q M O]at f;have j:mN (m.rgs.set i r') (put w1 b ((dL (hp w1 b)).setIfInBounds (i*7+k) v') (dM (hp w1 b))) p rv:=by rw[mN,cE];exact f
 obtain⟨V,W,X⟩:=t _ p (mN (m.rgs.set i r')) C j;obtain⟨D,E⟩:=A.one B;refine⟨ok,D,E,?_,V,W,X⟩;rw[bj (Ne.symm L)];have:hp w1 g=hp w g:=u.aF.block g (by
  rcases dh g w.heap.size with h|h
  ·exact h
  ·have Y:hp w g=none:=by simp[hp];omega
   rw[Y]at hb;cases hb) λh=>q (a g h)
 rw[this];exact hb
theorem kt.rgsPut(I:kt w g m F):∃v l,(∀ x,l x->F x)/\an (hp w g) (0+8)=some v/\mN m.rgs w l v/\
  ∀w1 i v' a,aO l i w w1->mN a w1 i v'->pY (hp w1 g) (0+8+1)=true/\v'.cells= #[v']/\v'.oneCell'=true/\
   ∃j,kt (put w1 g ((dL (hp w1 g)).setIfInBounds (0+8) v') (dM (hp w1 g))) g {m with rgs:=a} j/\aO F j w (put w1 g ((dL (hp w1 g)).setIfInBounds (0+8) v') (dM (hp w1 g))):=by
 obtain⟨rv,Fr,s,o,b,n,p,_,c⟩:=eR.cell I (gO m) (k:=8) (P:=mN m.rgs) rfl;refine⟨rv,Fr,b,n,p,λw1 i v' a u d=>?_⟩;obtain⟨ok,j,q,r⟩:=c w1 i (mN a) v' u (good_rgs a) d;obtain⟨e,f⟩:=(good_rgs a).one d;exact⟨ok,e,f,j,q,r⟩
theorem rgs_grown{L:List fL}{d:World}{x x':Value}{xs:List Value}(h:mN L w F x)(a:w.ownsRow 0 99 7 x L.length xs)(nm:iH)(cls:Int)
  (l:d.ownsRow 0 99 7 x' (L.length+1) (xs++ [bN nm.1,bN nm.2,bN cls,bN 0,.slice none 0 0,.slice none 0 0,.slice none 0 0])) (n:w.grownBy d x.ownBlock) (f:hI w x x'):
  ∃e,mN (L++ [⟨nm,cls,0, [], [], []⟩]) d e x'/\aO F e w d:=by
 have o:fX w (rgT ⟨nm,cls,0, [], [], []⟩) [bN nm.1,bN nm.2,bN cls,bN 0,.slice none 0 0,.slice none 0 0,.slice none 0 0] (λ_=>cL):=by
  refine⟨rfl,λk P v i p=>?_,λ_ _ _ _ _ b hb _=>hb⟩;have c:=(bY.1 i).1;rw[qq]at c;have g:k=0\/k=1\/k=2\/k=3\/k=4\/k=5\/k=6:=dB;rcases g with rfl|rfl|rfl|rfl|rfl|rfl|rfl<;>cases i<;>cases p
  ·exact⟨rfl,λ_ h=>h⟩
  ·exact⟨rfl,λ_ h=>h⟩
  ·exact⟨rfl,λ_ h=>h⟩
  ·exact⟨rfl,λ_ h=>h⟩
  ·exact aZ.nil
  ·exact aZ.nil
  ·exact aZ.nil
 obtain⟨e,q,j,_⟩:=aZ.grow (G:=cL) (m:=1) h (je L) (good_rg _) o (λb=>⟨λh=>h.elim,fun⟨_,_,h⟩=>h⟩) (λ_ _ h=>h) (λr s=>by rw[qu s a];exact l) n f;refine⟨e,?_,⟨j.aF.mono λk c=>c.resolve_right id,λk c=>(j.sub k c).imp (·.resolve_right id) id⟩⟩;rw[mN,cq,List.flatMap_append];simpa using q
theorem rs_beq(a b:jI):((a.1==b.1)&&(((a.2.1.1==b.2.1.1)&&((a.2.1.2.1==b.2.1.2.1)&&((a.2.1.2.2.1==b.2.1.2.2.1)&&((a.2.1.2.2.2.1==b.2.1.2.2.2.1)&&((a.2.1.2.2.2.2==b.2.1.2.2.2.2)&&(true))))))&&((a.2.2.1==b.2.2.1)&&((a.2.2.2==b.2.2.2)&&(true)))))=decide (a=b):=by
 obtain⟨c,⟨d,e,f,g,i⟩,j,k⟩:=a;obtain⟨l,⟨m,n,o,p,q⟩,r,s⟩:=b;by_cases t:c=l<;>by_cases u:d=m<;>by_cases v:e=n<;>by_cases w:f=o<;>by_cases x:g=p<;>by_cases y:i=q<;>by_cases z:j=r<;>by_cases A:k=s<;>simp[t,u,v,w,x,y,z,A]
theorem be_rs{x y:Operand}(a b:jI):be prog .eql 35 x y (.agg (gw a).toArray) (.agg (gw b).toArray)=some (.bool (decide (a=b))):=by rw[<- rs_beq];exact be_eql_35
theorem be_nrs{x y:Operand}(a b:jI):be prog .neq 35 x y (.agg (gw a).toArray) (.agg (gw b).toArray)=some (.bool (!decide (a=b))):=by rw[<- rs_beq];exact be_neq_35
theorem c_mTaken{s rv hh:Value}(M:MdR w g m s rv hh)(Wm:Wf m K)(hK:K<=1000000)(x:Int):aa prog 78 [bS g,bN x] w λv y=>v= .bool (jf m x)/\ad [] w y:=by
 apply F78_ok;obtain⟨A,c,o⟩:=rgs_sh M.rT;have z:=M.rl;rw[o]at z;have hl:=cU Wm.rl hK;simp only[F78,zS,fa_90_3,ld_87,z,len_87];have B:∀(d i:Nat) (w1:World),ad [] w w1->(∀ (j:Nat) (r:fL),j<i->m.rgs[j]? =some r->(ft m r.nm&&decide (x∈r.chunks))=false)->i+d=m.rgs.length->
   P78_0 (bS g) (bN x) (.slice A m.rgs.length c) (bN m.rgs.length) (bN i) w1 λv y=>v= .bool (jf m x)/\ad [] w y:=by
  intro d;induction d with
  |zero=>
   intro i w1 L P hi;apply L78_0_ok;have:¬(i:Int)<m.rgs.length:=dB;simp only[L78_0,zS,this];refine⟨?_,L⟩;have:jf m x=false:=by
    rw[jf,List.any_eq_false];intro r o;obtain⟨j,q⟩:=List.getElem?_of_mem o;rw[P j r (by have:=(bY.1 q).1;omega) q];simp
   rw[this]
  |succ d ih=>
   intro i w1 L P hi;apply L78_0_ok;have Q:(i:Int)<m.rgs.length:=dB;obtain⟨a,f⟩:∃a,m.rgs[i]? =some a:=⟨_,bX dB⟩
   obtain⟨Fr,hF⟩:=(M.ao L).rT;obtain⟨b,S,hx,C,wv,ov,R⟩:=rg_at hF f;rw[o]at hx;cases hx;have ia:=ia_87 (b:=b) (p:=0) (n:=m.rgs.length) (c:=c) (j:= .i64) (i:=(i:Int)) dB dB;rw[cj,cM]at ia;have lr:ldL (hp w1 b) (i*7) 7=some [bN a.nm.1,bN a.nm.2,bN a.cls,bN a.off,C,wv,ov]:=mw 7 _ _ rfl λj u q=>by
    have T:=(bY.1 q).1;simp at T;have h7:j=0\/j=1\/j=2\/j=3\/j=4\/j=5\/j=6:=dB;rcases h7 with rfl|rfl|rfl|rfl|rfl|rfl|rfl<;>cases q
    ·exact R.c0
    ·exact R.c1
    ·exact R.c2
    ·exact R.c3
    ·exact R.c4
    ·exact R.c5
    ·exact R.c6
   obtain⟨Fc,D⟩:=R.cT;obtain⟨Fw,U⟩:=R.wT;obtain⟨Fo,V⟩:=R.oT;have E:=((ga _).one D).2;have F:=((gV _).one U).2;have G:=((kC _).one V).2;simp only[L78_0,zS,Q,ia,ld_99,lr,Option.map_some,al_99];rw[st_99 (by rfl) (by show(List.all [_,_,_,_,C,wv,ov] _)=true;have oi:∀(k:IntKind) (x:Int),(Value.int k x).oneCell'=true:=λ_ _=>rfl;simp[E,F,G,oi]) (by rw[af,bU rfl];rfl) (by rw[af,bU rfl];rfl),af,bU rfl,au];generalize t:put (w1.alloc _) w1.heap.size _ _=w2;have c2:ad [] w1 w2:=by rw[<- t];exact((ad.refl _ _).alloc _).put (.inr (cy _)) _ _
   have a6:hp w2 w1.heap.size=some (.cells #[bN a.nm.1,bN a.nm.2,bN a.cls,bN a.off,C,wv,ov] 99):=by rw[<- t];exact ar (by simp) _ _
   clear t;have H:=L.trans c2;have ln:ldL (some (Obj.cells #[bN a.nm.1,bN a.nm.2,bN a.cls,bN a.off,C,wv,ov] 99)) (0+0) 2=some [bN a.nm.1,bN a.nm.2]:=rfl;simp only[fa_99_0,ld_96,a6,ln,Option.map_some,ac];refine(c_mIsLive (M.ao H) a.nm).mono ?_;rintro _ W ⟨rfl,X⟩;have I:=H.trans X;have Y:=X.at a6 (by simp);have next:(ft m a.nm&&decide (x∈a.chunks))=false->P78_0 (bS g) (bN x) (.slice (some ⟨b,0,none⟩) m.rgs.length c) (bN m.rgs.length) (bN ((i:Int)+1)) W λv y=>v= .bool (jf m x)/\ad [] w y:=by
    intro hf;have:=ih (i+1) W I (λj r q o=>by
     rcases dh j i with h1|h1
     ·exact P j r h1 o
     ·have:j=i:=dB;subst this;rw[f]at o;cases o;exact hf) dB
    rw[df i 1]at this;exact this
   cases J:ft m a.nm with
   |false=>
    simp only[zS,aj,ap (n:=(i:Int)+1) dB dB];exact next (by rw[J];rfl)
   |true=>
    obtain⟨A',S,Z,hR⟩:=lf ⟨_,D⟩;have e4:(#[Value.int .i64 a.nm.1,bN a.nm.2,bN a.cls,bN a.off,C,wv,ov])[0+4]? =some (.slice A' a.chunks.length S):=by rw[Z];rfl
    simp only[zS,ql,aK,Y,e4];apply F109_ok;simp only[F109];have a1:sZ .i64 W A' a.chunks:=hR.ao (c2.trans X).below;have a2:a.chunks.length<=1000000:=cU (Wm.rg a (cD f)).cl hK;refine(c_iIndex (c:=S) a1 a2 x).step ?_;have l:decide (nc a.chunks x>=0)=decide (x∈a.chunks):=rM _ _;simp only[zS];by_cases O:x∈a.chunks
    ·rw[cr O]at l;have e:=of_decide_eq_true l;simp only[zS,e];refine⟨?_,I⟩;have:jf m x=true:=by
      rw[jf,List.any_eq_true];exact⟨a,cD f,by rw[J,cr O];rfl⟩
     rw[this]
    ·rw[bZ O]at l;have e:=of_decide_eq_false l;simp only[zS,e,aj,ap (n:=(i:Int)+1) dB dB];exact next (by rw[bZ O];simp)
 exact B m.rgs.length 0 w (ad.refl _ _) (λj r q=>dB) dB
end
section
variable{W w:World}{g g5:Nat}{m:dI}{F:Fp}{K:Nat}{r:jI}{cls:Int}{p:iH}
theorem kt.notF(I:kt W g m F){x:Nat}(h:W.heap.size<=x):¬F x:=λa=>by have:=eR.lt I (gO m) x a;omega
theorem rs_0(r:jI):(gw r).toArray[0+0]? =some (bN r.1):=rfl
theorem rs_1(r:jI):(gw r).toArray[0+1+0]? =some (bN r.2.1.1):=rfl
theorem rs_3(r:jI):(gw r).toArray[0+1+2]? =some (bN r.2.1.2.2.1):=rfl
theorem rs_h(r:jI)(e:TypeId):ldL (some (Obj.cells (gw r).toArray e)) (0+1) 5=some (ba r.2.1):=rfl
theorem l_creates0(M:ad [] W w)(Y:kt W g m F)(Wm:Wf m K)(hK:K+1<=1000000)(n5:W.heap.size<=g5)(E:hp w g5=some (.cells (gw r).toArray 35))(r7:r≠bn 7)(O:0<=r.2.1.1/\r.2.1.1<m.slots.length)(l:m.slots[r.2.1.1.toNat]? =some p)(p0:p.1=0):
  P43_0 (bS g) (bN cls) (bS g5) (bN (aY p.2)) w λv Z=>v= .bool (bT m cls r).1/\∃q,kt Z g (bT m cls r).2 q/\aO F q W Z:=by
 apply L43_0_ok;have I:=Y.ao M;have G:bT m cls r=if r=(0,(r.2.1.1,aY p.2,0,0,0),0,0)then
    (true,{m with slots:=m.slots.set r.2.1.1.toNat (1,aY p.2),rgs:=m.rgs++ [⟨(r.2.1.1,aY p.2),cls,0, [], [], []⟩]})else(false,m):=by
  rw[bT,bV r7,bU O,l];simp only[ne_eq,p0,not_true_eq_false,if_false]
 have P:be prog .neq 35 (.tmp 54) (.tmp 60) (.agg (gw r).toArray) (.agg #[bN 0,bN r.2.1.1,bN (aY p.2),bN 0,bN 0,bN 0,bN 0,bR 0])=some (.bool (!decide (r=(0,(r.2.1.1,aY p.2,0,0,0),0,0)))):=be_nrs r (0,(r.2.1.1,aY p.2,0,0,0),0,0);simp only[L43_0,eP E,ac,iS,bu,ag,E,aN,rs_1,bd_32_0_1,bd_35_1,P];by_cases s:r=(0,(r.2.1.1,aY p.2,0,0,0),0,0)
 ·rw[bU s]at G;rw[G];have cd:ad [] w w.drew:=(ad.refl _ _).drew;obtain⟨b1,c1,hl,a1,a2,ok,F1,h1,h2⟩:=(I.ao cd).slotSet2 (p':=(1,aY p.2)) l;have ia:=ia_86 (b:=b1) (p:=0) (n:=m.slots.length) (c:=c1) (j:= .i64) (i:=r.2.1.1) O.1 O.2;rw[cM]at ia;simp only[cr s,zS,mj,tf,show an (hp w g) (0+7)=_ from hl,E,rs_1,bd_142_0_1,ia];rw[st_slot (o:=r.2.1.1.toNat*2) rfl rfl rfl rfl ok];have R:=h2.ao (show hp w.drew g5=_ from E) (Y.notF n5);generalize put w.drew b1 _ _=w1 at*;have e:ad [] w1 w1.drew:=(ad.refl _ _).drew;have a3:hp w1.drew g5=some (.cells (gw r).toArray 35):=R.1;have fin:∀w2,ad [] w1 w2->∃(v:Value) (t:Fp),an (hp w2 g) (0+8)=some v/\(∀ x,t x->F1 x)/\
    ∀{Q:Value->World->Prop},(∀ x' a,pY (hp a g) (0+8+1)=true->x'.cells= #[x']->x'.oneCell'=true->
      (∃ q,kt (put a g ((dL (hp a g)).setIfInBounds (0+8) x') (dM (hp a g))) g {m with slots:=m.slots.set r.2.1.1.toNat (1,aY p.2),rgs:=m.rgs++ [⟨(r.2.1.1,aY p.2),cls,0, [], [], []⟩]} q/\aO F q W (put a g ((dL (hp a g)).setIfInBounds (0+8) x') (dM (hp a g))))->Q x' a)->
     cP prog (Instr.buildSlice 87 1 #[(0,.agg #[bN r.2.1.1,bN (aY p.2),bN cls,bN 0,.slice none 0 0,.slice none 0 0,.slice none 0 0])]) w2 λy a=>cP prog (Builtin.append_ #[87,87] 87 #[v,y]) a Q:=by
   intro w2 f;obtain⟨v,t,d,S,hR,z⟩:=(h1.ao f).rgsPut;refine⟨v,t,S,d,fun{Q} hQ=>?_⟩;obtain⟨xs,Fs,H,q2,q3,q4⟩:=hR;have A:({m with slots:=m.slots.set r.2.1.1.toNat (1,aY p.2)}:dI).rgs.length=m.rgs.length:=rfl;rw[A]at H;have a4:=Wm.rl;refine ps_87 (λu hu=>by simp only[cV,dx,or_false]at hu;rcases hu with rfl|rfl|rfl|rfl|rfl|rfl|rfl<;>rfl) H dB (cQ _) λx' a ho hg T=>?_;obtain⟨F3,r1,r2⟩:=rgs_grown (nm:=(r.2.1.1,aY p.2)) (cls:=cls) (L:=m.rgs) ⟨xs,Fs,H,q2,q3,q4⟩ H ho hg T;obtain⟨U,B,C,F4,t1,t2⟩:=z a F3 x' _ r2 r1;exact hQ x' a U B C ⟨F4,t1,(h2.pre (M.trans cd)).trans (t2.pre f)⟩
  obtain⟨v0,a5,D,a6,_⟩:=fin w1 (ad.refl _ _);have en:dO r.2.1=(r.2.1.1,aY p.2):=by
   have:=congrArg (λx:jI=>x.2.1.2.1) s;simp only at this;rw[dO,this]
  constructor
  ·simp only[zS,fa_90_3,ld_87,D,ld_32,R.1,rs_h,Option.map_some];refine(kD r.2.1 w1.drew).mono ?_;rintro _ w2 ⟨rfl,f⟩;obtain⟨v,t,J,d,V⟩:=fin w2 (e.trans f);rw[ff (e.trans f) D]at J;cases J;have k:(gD (r.2.1.1,r.2.1.2.1)).toArray= #[bN r.2.1.1,bN (aY p.2)]:=by
    have:=congrArg (λx:iH=>(gD x).toArray) en;exact this
   simp only[zS,k,bd_99_0_1];refine V λx' a ok B C X=>?_;rw[st_87 (o:=0+8) B C ok];apply L43_1_ok;exact⟨rfl,X⟩
  ·simp only[zS,fa_90_3,ld_32,R.1,rs_h,Option.map_some];refine(kD r.2.1 w1.drew).mono ?_;rintro _ w2 ⟨rfl,f⟩;obtain⟨v,t,J,d,V⟩:=fin w2 (e.trans f);have k:(gD (r.2.1.1,r.2.1.2.1)).toArray= #[bN r.2.1.1,bN (aY p.2)]:=by
    have:=congrArg (λx:iH=>(gD x).toArray) en;exact this
   simp only[zS,k,bd_99_0_1,ld_87,J];refine V λx' a ok B C X=>?_;rw[st_87 (o:=0+8) B C ok];apply L43_1_ok;exact⟨rfl,X⟩
 ·rw[bV s]at G;simp only[bZ s,zS];rw[G];exact⟨rfl,F,I,aO.bL M⟩
theorem c_mCreates(I:kt w g m F)(H:Wf m K)(W:K+1<=1000000)(cls:Int)(r:jI):
  aa prog 43 [bS g,bN cls,.agg (gw r).toArray] w λv u=>v= .bool (bT m cls r).1/\∃y,kt u g (bT m cls r).2 y/\aO F y w u:=by
 apply F43_ok;have s:hp (w.alloc (.cells (gw r).toArray 35)) w.heap.size=some (.cells (gw r).toArray 35):=by rw[af,bU rfl]
 have a:ad [] w (w.alloc (.cells (gw r).toArray 35)):=(ad.refl _ _).alloc _;simp only[F43,ak,aq];generalize w.alloc (.cells (gw r).toArray 35)=w0 at*;have X:w.heap.size<=w.heap.size:=cy _;generalize Y:w.heap.size=g5 at*;have Z:w.heap.size<=g5:=dB;obtain⟨_,_,_,M⟩:=(I.ao a).rd;have J:be prog .eql 35 (.tmp 9) (.tmp 10) (.agg (gw r).toArray) (.agg #[bN 7,bN 0,bN 0,bN 0,bN 0,bN 0,bN 0,bR 0])=some (.bool (decide (r=bn 7))):=be_rs r (bn 7);simp only[eP s,ac,bd_35_0,J];by_cases t:r=bn 7
 ·have L:bT m cls r=(m.loose||decide (gf m.slots=0),m):=by rw[bT,bU t]
  simp only[cr t,zS,fa_90_1,az,M.l];rw[L];by_cases z:m.loose=true
  ·simp only[z,zS];exact⟨by simp,F,I.ao a,aO.bL a⟩
  ·have O:m.loose=false:=by simpa using z
   simp only[O,zS];refine(c_mSpare M H.sl).mono ?_;rintro _ w1 ⟨rfl,S⟩;simp only[zS];refine⟨?_,F,I.ao (a.trans S),aO.bL (a.trans S)⟩;by_cases T:gf m.slots=0
   ·rw[T];rfl
   ·rw[aW (show(gf m.slots:Int)≠0 by omega),bZ T];rfl
 ·have C:ad [] w0 w0.drew:=(ad.refl _ _).drew;have P:¬(0<=r.2.1.1/\r.2.1.1<m.slots.length)->bT m cls r=(false,m):=λh=>by rw[bT,bV t,bV h]
  have U:=I.ao (a.trans C);have Q:=M.ao C;simp only[bZ t,zS,iS,bu,ag,s,rs_1];refine(c_mSlot Q r.2.1.1).step ?_;by_cases i:0<=r.2.1.1/\r.2.1.1<m.slots.length
  ·obtain⟨p,d⟩:∃p,m.slots[r.2.1.1.toNat]? =some p:=⟨_,bX dB⟩
   obtain⟨A,c,R,hR⟩:=pD Q.sT;obtain⟨b,o,D,q2,q3⟩:=slot_at (c:=c) hR d;have j:((r.2.1.1.toNat:Nat):Int)=r.2.1.1:=dB;rw[j]at D;have V:=Q.sl;rw[R]at V;have k:an (hp w0 g) (0+7)=some (.slice A m.slots.length c):=V;have q:an (hp w0 b) (o+0)=some (bN p.1):=q2;have B:an (hp w0 b) (o+1)=some (bN p.2):=q3;by_cases E:p.1=0
   ·have pg:=H.sg p (cD d);have G:(p.1 !=0)=false:=by rw[E];rfl
    have fin:∀x,aY p.2=x->P43_0 (bS g) (bN cls) (bS g5) (bN x) w0.drew.drew λv u=>v= .bool (bT m cls r).1/\∃y,kt u g (bT m cls r).2 y/\aO F y w u:=by
     rintro x rfl;exact l_creates0 (a.drew.drew) I H W Z (show hp w0.drew.drew g5=_ from s) t i d E
    by_cases e:p.2<4294967295
    ·have f:=fin (p.2+1) (by rw[aY,bU e]);simp only[zS,i,and_self,mj,tf,k,bu,ag,s,rs_1,D,kT,fa_142_1,q,B,G,e,aj,ap (n:=p.2+1) dB dB];exact f
    ·have f:=fin 0 (by rw[aY,bV e]);simp only[zS,i,and_self,mj,tf,k,bu,ag,s,rs_1,D,kT,fa_142_1,q,B,G,e];exact f
   ·have G:(p.1 !=0)=true:=bne_iff_ne.2 E;have L:bT m cls r=(false,m):=by
     rw[bT,bV t,bU i,d];simp only[ne_eq,E,not_false_eq_true,if_true]
    simp only[zS,i,and_self,mj,tf,k,bu,ag,s,rs_1,D,kT,q,G];rw[L];exact⟨by first|rfl|trivial,F,U,aO.bL (a.trans C)⟩
  ·simp only[zS,i];rw[P i];exact⟨by first|rfl|trivial,F,U,aO.bL (a.trans C)⟩
end
section
variable{W w:World}{g g7 o8 b c i:Nat}{m:dI}{F F0:Fp}{K:Nat}{r:jI}{x:fL}{want:eN}{need:Int}
theorem iU{h:eN}{g:Nat}{e:TypeId}(hb:hp w g=some (.cells (ba h).toArray e)):gi prog 32 (bS g) w=some (.agg (ba h).toArray):=aR (t:=32) (c:=(ba h).toArray) qJ (show(Tryz.prog.info? 32).map (·.size)=some (ba h).toArray.size from lP) hb
theorem set_rg{i:Nat}{x y:fL}(m:dI):{({m with rgs:=m.rgs.set i x}:dI)with rgs:=({m with rgs:=m.rgs.set i x}:dI).rgs.set i y}={m with rgs:=m.rgs.set i y}:=by simp[List.set_set]
theorem at_set{i:Nat}{x y:fL}(a:m.rgs[i]? =some x):({m with rgs:=m.rgs.set i y}:dI).rgs[i]? =some y:=by
 show(m.rgs.set i y)[i]? =_;rw[cR,bU rfl,bU (bY.1 a).1]
theorem rO(n:Nat)(c:n<=maxLen):mZ (List.replicate n 0) (w.alloc (.cells (fZ (List.replicate n 0)).toArray 33)) (λb=>b=w.heap.size) (.slice (some ⟨w.heap.size,0,none⟩) n n):=by
 have h:(w.alloc (.cells (fZ (List.replicate n 0)).toArray 33)).ownsRow 0 33 1 (.slice (some ⟨w.heap.size,0,none⟩) n n) n (fZ (List.replicate n 0)):=
  ⟨by simp[fZ],.inr ⟨w.heap.size,n,_,rfl,cQ _,heap_alloc_new w _,cy _,c,by simp[fZ],by simp[fZ]⟩⟩
 have a:=pC h;have e:(λb=>(Value.slice (some ⟨w.heap.size,0,none⟩) n n).ownBlock=some b)=(λb=>b=w.heap.size):=by
  funext b;simp[Value.ownBlock,eq_comm]
 rw[e]at a;rw[mZ,dz];exact a
theorem l_gives1(U:aO F0 F W w)(I:kt w g m F)(hb:an (hp w g) (0+8)=some (.slice (some ⟨b,0,none⟩) m.rgs.length c))(D:m.rgs[i]? =some x)(E:x.objs.length<=1000000)(n:hp w o8=some (.cells (ba want).toArray 32)):
  P44_1 (.pointer (some ⟨b,i*7,none⟩)) (bS o8) w λv t=>v= .bool true/\∃y,kt t g {m with rgs:=m.rgs.set i {x with objs:=x.objs++ [want]}} y/\aO F0 y W t:=by
 apply L44_1_ok;have p:ad [] w w.drew:=(ad.refl _ _).drew;obtain⟨v,Q,z,G,a,q,A,d⟩:=(I.ao p).qM (hb:=ff p hb) D (k:=6) dB (P:=oF x.objs) rfl;have f:hp w.drew o8=some (.cells (ba want).toArray 32):=n;simp only[L44_1,zS,fa_99_5,ld_76,show an (hp w b) (i*7+6)=_ from q,iU f];obtain⟨j,_⟩:=gN A;refine ps_76 (λu B=>by simp only[cV,dx,or_false]at B;rcases B with rfl|rfl|rfl|rfl|rfl<;>rfl) j dB (cQ _) λx' w2 H J a=>?_;obtain⟨C,r,s⟩:=l0 (vs:=ba want) A H J a;have l:oF (x.objs++ [want]) w2 C x':=by
  rw[oF,cq];have e:(x.objs++ [want]).flatMap ba=x.objs.flatMap ba++ba want:=by simp
  rw[e];exact r
 obtain⟨ok,K,L,_,F3,M,O⟩:=d w2 C (oF (x.objs++ [want])) x' {x with objs:=x.objs++ [want]} s (kC _) l rfl;rw[st_76 (o:=i*7+6) K L ok];exact⟨by first|rfl|trivial,F3,M,U.trans (O.pre p)⟩
theorem l_gives0(U:aO F0 F W w)(I:kt w g m F)(Wm:Wf m K)(hK:K+1<=1000000)(hb:an (hp w g) (0+8)=some (.slice (some ⟨b,0,none⟩) m.rgs.length c))(C:m.rgs[i]? =some x)(Y:x.objs.length<=1000000)
  (h7:hp w g7=some (.cells (gw r).toArray 35)) (q:hp w o8=some (.cells (ba want).toArray 32)) (Z:¬F o8):
  P44_0 (bS g) (bS g7) (.pointer (some ⟨b,i*7,none⟩)) (bN need) (bS o8) (.bool (dW x m.c.2.2.1 need)) w λv w'=>
   v= .bool (if r=(0,want,0,0)then true else false)/\∃F',kt w' g (if r=(0,want,0,0)then{m with rgs:=m.rgs.set i (lg m.c.2.2.1 need x want)}else m) F'/\aO F0 F' W w':=by
 apply L44_0_ok;have b9:be prog .neq 35 (.tmp 74) (.tmp 76) (.agg (gw r).toArray) (.agg (gw (0,want,0,0)).toArray)=some (.bool (!decide (r=(0,want,0,0)))):=be_nrs r (0,want,0,0);have c1:ai prog (Instr.build 35 #[(1,.agg (ba want).toArray)])=some (.agg (gw (0,want,0,0)).toArray):=bd_35_1;have W1:=Wm.w1;have W2:=Wm.w2;have R:=Wm.rg x (cD C);simp only[L44_0,eP h7,iU q,c1,b9,ac];by_cases D:r=(0,want,0,0)
 ·rw[bU D,bU D];cases hf:dW x m.c.2.2.1 need with
  |true=>
   obtain⟨f1,f2,f3,f4⟩:=pG hf;obtain⟨v,Fk,a1,c2,E,s,H,f⟩:=I.qM (hb:=hb) C (k:=3) dB (P:=iT x.off) rfl;rw[H.1]at s;obtain⟨ok,s1,s2,J,F1,t1,t2⟩:=f w cL (iT (x.off+need)) (bN (x.off+need)) {x with off:=x.off+need} (aO.none H.2 w) (fe _ _) ⟨rfl,λ_ h=>h⟩ rfl;simp only[cr D,zS,fa_99_2,ag,s,aj,ap (n:=x.off+need) dB dB];rw[gB (o:=i*7+3) s1 s2 ok];have t:=t2.ao q Z;have L:({m with rgs:=m.rgs.set i {x with off:=x.off+need}}:dI).rgs.length=m.rgs.length:=by simp
   have:=l_gives1 (U.trans t2) t1 (hb:=by rw[L];exact J) (at_set C) Y t.1;rw[set_rg]at this;have eg:lg m.c.2.2.1 need x want={x with off:=x.off+need,objs:=x.objs++ [want]}:=by rw[lg,hf];rfl
   rw[eg];exact this
  |false=>
   have cd:ad [] w w.drew:=(ad.refl _ _).drew;obtain⟨v,Fk,a1,c2,E,s,H,f⟩:=(I.ao cd).qM (hb:=ff cd hb) C (k:=4) dB (P:=fA x.chunks) rfl;have a2:hp w.drew o8=some (.cells (ba want).toArray 32):=q;have e2:(ba want).toArray[0+2]? =some (bN want.2.2.1):=rfl;simp only[cr D,zS,ql,eX,aK,ag,show an (hp w b) (i*7+4)=_ from s,q,e2];obtain⟨a3,_⟩:=gN H;have h2:=R.cl;refine ps_22 (λu hu=>by simp only[cV,dx,or_false]at hu;rcases hu with rfl;rfl) a3 dB (cQ _) λx1 w2 ho hg E=>?_;obtain⟨F2,c3,c4⟩:=l0 (vs:= [Value.int .i64 want.2.2.1]) H ho hg E;have a4:fA (x.chunks++ [want.2.2.1]) w2 F2 x1:=by
    rw[fA,cq];have e:ints (x.chunks++ [want.2.2.1])=ints x.chunks++ [Value.int .i64 want.2.2.1]:=by simp[ints]
    rw[e];exact c3
   obtain⟨ok,s1,s2,J,F3,t1,t2⟩:=f w2 F2 (fA (x.chunks++ [want.2.2.1])) x1 {x with chunks:=x.chunks++ [want.2.2.1]} c4 (ga _) a4 rfl;rw[st_22 (o:=i*7+4) s1 s2 ok];have t:=t2.ao a2 Z;have U1:=U.trans (t2.pre cd);generalize put w2 b _ _=a at*;generalize M:({x with chunks:=x.chunks++ [want.2.2.1]}:fL)=d at*;have c5:=at_set (m:=m) (y:=d) C;have g4:({m with rgs:=m.rgs.set i d}:dI).rgs.length=m.rgs.length:=by simp
   generalize a5:({m with rgs:=m.rgs.set i d}:dI)=m1 at*;have c6:m1.c=m.c:=by rw[<- a5]
   have z:ad [] a a.drew:=(ad.refl _ _).drew;obtain⟨v5,a6,O,_,_,a7,c7,Q⟩:=(t1.ao z).qM (hb:=ff z J) c5 (k:=5) dB (P:=gS d.words) rfl;obtain⟨_,_,_,M3⟩:=t1.rd;have c8:an (hp a g) (0+0+2)=some (bN ((m.c.2.2.1.toNat:Nat):Int)):=by
    have:=M3.c 2 dB;rw[c6]at this;rw[show((m.c.2.2.1.toNat:Nat):Int)=m.c.2.2.1 by omega];exact this
   obtain⟨iu,c9,d1,a8,d2⟩:=inf_33;generalize hn:m.c.2.2.1.toNat=n at*;have h3:(n:Int)=m.c.2.2.1:=dB;simp only[zS,fa_99_4,sE,eW,ld_97,ag,show an (hp a b) (i*7+5)=_ from a7,c8,jm (P:=prog) (kl:= .i64) (kc:= .i64) (n:=n) Tryz.underlying139 c9 d1 (by rw[a8];omega) (by rw[d2];omega) dB];have d3:madeCells (Value.int .u64 0).cells (n*iu.size)=(fZ (List.replicate n 0)).toArray:=by
    apply Array.toList_inj.1;rw[a8,dr];have:=toList_madeCells_one (Value.int .u64 0) n;rw[fZ,List.map_replicate];exact this
   rw[d3];have n3:a.drew.heap.size=a.heap.size:=rfl;have ob:=rO (w:=a.drew) n (by unfold maxLen;omega);generalize a9:a.drew.alloc (.cells (fZ (List.replicate n 0)).toArray 33)=wA at*;have cA:ad [] a.drew wA:=by rw[<- a9];exact(ad.refl _ _).alloc _
   have sA:wA.heap.size=a.heap.size+1:=by rw[<- a9,ah,n3]
   have b1:=(gV d.words).frame c7 (bl.bL cA cL) (λ_ _ h=>h);obtain⟨xs,Fs,q1,q2,q3,q4⟩:=b1;have h4:d.words.length<=1000000:=by rw[<- M];have:=R.wl;simp only;omega
   refine ps_97 (λu hu=>by simp only[cV,dx,or_false]at hu;rcases hu with rfl;rfl) q1 dB (cQ _) λx2 w4 d4 d5 b2=>?_;have hy:fX wA [mZ (List.replicate n 0)] [.slice (some ⟨a.drew.heap.size,0,none⟩) n n] (λ_=>λb=>b=a.drew.heap.size):=⟨rfl,λk P v V H=>by
    have p:=(bY.1 V).1;have:k=0:=by simp at p;omega
    subst this;cases V;cases H;exact ob,λj k hj p h5=>by simp at hj p;omega⟩
   have d6:∀k,a6 k->k<a.heap.size:=λk p=>eR.lt (t1.ao z) (gO m1) k (O k p);obtain⟨F5,g1,X,_⟩:=aZ.grow (G:=λb=>b=a.drew.heap.size) (m:=1) ⟨xs,Fs,q1,q2,q3,q4⟩ (λP V=>by obtain⟨l,_,rfl⟩:=List.mem_map.1 V;exact lX l) (λP V=>by rw[db.1 V];exact lX _) hy
    (λb=>⟨λh=>⟨0,by simp,h⟩,fun⟨_,_,h⟩=>h⟩) (λk p h6=>by have:=d6 k p;omega) (λh8 h'=>by rw[qu h' q1];exact d4) d5 b2
   have d7:aO a6 F5 a.drew w4:=by
    refine⟨⟨X.aF.os.trans cA.os,X.aF.tape.trans cA.tape,X.aF.output.trans cA.output,by have:=X.aF.size;omega,λk p hn=>?_⟩,λk p=>?_⟩
    ·rw[X.aF.block k dB (λh=>by rcases h with h|h;exact hn h;omega)];exact cA.block k p (by simp)
    ·rcases X.sub k p with h|h
     ·rcases h with h|h
      ·exact .inl h
      ·exact .inr dB
     ·exact .inr dB
   have d8:gS (d.words++ [List.replicate n 0]) w4 F5 x2:=by
    rw[gS,cq,List.map_append];exact g1
   obtain⟨d9,e1,e3,e4,F6,S,b3⟩:=Q w4 F5 (gS (d.words++ [List.replicate n 0])) x2 {d with words:=d.words++ [List.replicate n 0]} d7 (gV _) d8 rfl;rw[st_97 (o:=i*7+5) e1 e3 d9];have A:=b3.ao (show hp a.drew o8=_ from t.1) t.2;have U2:=U1.trans (b3.pre z);have e5:({m1 with rgs:=m1.rgs.set i {d with words:=d.words++ [List.replicate n 0]}}:dI)={m with rgs:=m.rgs.set i {d with words:=d.words++ [List.replicate n 0]}}:=by rw[<- a5];exact set_rg m
   rw[e5]at S;generalize put w4 b _ _=w5 at*;generalize b4:({d with words:=d.words++ [List.replicate n 0]}:fL)=B at*;have e6:=at_set (m:=m) (y:=B) C;obtain⟨_,_,_,M5⟩:=S.rd;have e7:an (hp w5 g) (0+0+2)=some (bN m.c.2.2.1):=M5.c 2 dB;simp only[zS,e7];refine(c_sAfter m.c.2.2.1 need w5).step ?_;obtain⟨v3,h9,e8,_,_,h1,e9,T⟩:=S.qM (hb:=e4) e6 (k:=3) dB (P:=iT B.off) rfl;obtain⟨f5,f6,f7,f9,F7,b5,b6⟩:=T w5 cL (iT (eC m.c.2.2.1 need)) (bN (eC m.c.2.2.1 need)) {B with off:=eC m.c.2.2.1 need} (aO.none e9.2 w5) (fe _ _) ⟨rfl,λ_ h=>h⟩ rfl;simp only[zS,fa_99_2];rw[gB (o:=i*7+3) f6 f7 f5];have b7:=b6.ao A.1 A.2;rw[set_rg]at b5;have g3:=at_set (m:=m) (y:={B with off:=eC m.c.2.2.1 need}) C;have b8:({B with off:=eC m.c.2.2.1 need}:fL).objs.length<=1000000:=by rw[<- b4,<-M];exact Y
   have:=l_gives1 (U2.trans b6) b5 (hb:=by
    have L:({m with rgs:=m.rgs.set i {B with off:=eC m.c.2.2.1 need}}:dI).rgs.length=m.rgs.length:=by simp
    rw[L];exact f9) g3 b8 b7.1
   rw[set_rg]at this;have eg:lg m.c.2.2.1 need x want={({B with off:=eC m.c.2.2.1 need}:fL)with objs:=({B with off:=eC m.c.2.2.1 need}:fL).objs++ [want]}:=by
    rw[lg,hf,<-b4,<-M,hn];rfl
   rw[eg];exact this
 ·rw[bV D,bV D];simp only[bZ D,zS];exact⟨by first|rfl|trivial,F,I,U⟩
end
section
variable{w:World}{g:Nat}{m:dI}{F:Fp}{K:Nat}
theorem c_mGives(I:kt w g m F)(P:Wf m K)(hK:K+1<=1000000)(n:Int)(h:eN)(r:jI){i:Nat}(hf:ec m.rgs (dO h)=some i):
  aa prog 44 [bS g,bN n,.agg (ba h).toArray,.agg (gw r).toArray] w λv f=>v= .bool (gX m n h r).1/\∃E,kt f g (gX m n h r).2 E/\aO F E w f:=by
 apply F44_ok;obtain⟨x,S,b3⟩:=nN hf;have R:=P.rg x (cD S);have W1:=P.w1;have W2:=P.w2;have gv:gX m n h r=if dW x m.c.2.2.1 (bF x.cls n)=false/\r=bn 6 then(true,m)
   else if dW x m.c.2.2.1 (bF x.cls n)=false/\(r.2.1.2.2.1<0\/m.c.2.1<=r.2.1.2.2.1\/jf m r.2.1.2.2.1=true)then(false,m)
   else if r=(0,nL m.c.2.2.1 (bF x.cls n) n x h r.2.1.2.2.1,0,0)then(true,{m with rgs:=m.rgs.set i (lg m.c.2.2.1 (bF x.cls n) x (nL m.c.2.2.1 (bF x.cls n) n x h r.2.1.2.2.1))})
   else(false,m):=by
  rw[gX,hf];simp only[S]
 simp only[F44,ak,aq,ah];generalize hw:(w.alloc (.cells (ba h).toArray 32)).alloc _=w1;have c1:ad [] w w1:=by rw[<- hw];exact((ad.refl _ _).alloc _).alloc _
 have a6:hp w1 w.heap.size=some (.cells (ba h).toArray 32):=by rw[<- hw,af,ah,bV dB,af,bU rfl]
 have a7:hp w1 (w.heap.size+1)=some (.cells (gw r).toArray 35):=by rw[<- hw,af,ah,bU rfl]
 clear hw;obtain⟨_,_,_,M⟩:=I.rd;simp only[iU a6,ac];refine(kD h w1).mono ?_;rintro _ w2 ⟨rfl,c2⟩;have T:=c1.trans c2;refine(sL (M.ao T) (h.1,h.2.1) (cU P.rl dB)).mono ?_;rintro v a ⟨c3,hv⟩;have p:=T.trans c3;have a2:ec m.rgs (h.1,h.2.1)=some i:=hf;rw[a2]at hv;rcases hv with⟨hv,_⟩|⟨i',rg,b,c,a3,U,H,rfl⟩
 ·cases hv
 cases a3;rw[S]at U;cases U;have a4:∀f,ad [] w f->an (hp f g) (0+8)=some (.slice (some ⟨b,0,none⟩) m.rgs.length c):=λf k=>by
  rw[<- H];exact(M.ao k).rl
 obtain⟨G,hG⟩:=(M.ao p).rT;obtain⟨b',c',hx,cv,wv,ov,V⟩:=rg_at hG S;rw[H]at hx;cases hx;have k2:=c2.trans c3;have f6:=k2.at a6 (by simp);have f7:=k2.at a7 (by simp);simp only[zS,fa_99_1,ag,V.c2];refine(c_sRound x.cls n a).step ?_;have e0:(ba h).toArray[0+0]? =some (bN h.1):=rfl;have e1:(ba h).toArray[0+1]? =some (bN h.2.1):=rfl;simp only[zS,bu,gm,eX,iS,ag,f6,f7,e0,e1,rs_3,th,oB];rw[st_32 (by rfl) (by rfl) (by rw[af,bU rfl];rfl) (by rw[af,bU rfl];rfl),af,bU rfl,au];generalize u:put (a.alloc _) a.heap.size _ _=A;have W:ad [] a A:=by rw[<- u];exact((ad.refl _ _).alloc _).put (.inr (cy _)) _ _
 have z:hp A a.heap.size=some (.cells (ba (h.1,h.2.1,r.2.1.2.2.1,0,n)).toArray 32):=by rw[<- u];exact ar (by simp) _ _
 clear u;have e:=p.trans W;have s3:=p.size;have a5:=W.at f7 (by simp);have u:∀f,ad [] w f->an (hp f g) (0+0+2)=some (bN m.c.2.2.1):=λf k=>(M.ao k).c 2 dB;have X:∀f,ad [] w f->an (hp f g) (0+0+1)=some (bN m.c.2.1):=λf k=>(M.ao k).c 1 dB;simp only[zS,sE,eW,ag,u _ e];refine(c_mFits (V.ao W) m.c.2.2.1 (bF x.cls n)).step ?_;have nF:∀{y},w.heap.size<=y->¬F y:=λhy=>I.notF hy;have a8:x.objs.length<=1000000:=cU R.ol dB;have Y:ad [] a A:=W;have j:∀(want:eN) B,ad [] a B->hp B a.heap.size=some (.cells (ba want).toArray 32)->
   P44_0 (bS g) (.pointer (some ⟨w.heap.size+1,0,none⟩)) (.pointer (some ⟨b,i*7,none⟩)) (bN (bF x.cls n)) (bS a.heap.size) (.bool (dW x m.c.2.2.1 (bF x.cls n))) B λv f=>
    v= .bool (if r=(0,want,0,0)then true else false)/\∃E,kt f g (if r=(0,want,0,0)then{m with rgs:=m.rgs.set i (lg m.c.2.2.1 (bF x.cls n) x want)}else m) E/\aO F E w f:=by
  intro want B c6 J;have O:=p.trans c6;exact l_gives0 (aO.bL O) (I.ao O) P hK (a4 _ O) S a8 (c6.at f7 (by simp)) J (nF dB)
 cases d:dW x m.c.2.2.1 (bF x.cls n)with
 |true=>
  rw[d]at j;obtain⟨f1,f2,f3,f4⟩:=pG d;have ew:nL m.c.2.2.1 (bF x.cls n) n x h r.2.1.2.2.1=(h.1,h.2.1,iD x.chunks,x.off,n):=by rw[nL,d];rfl
  rw[d,ew]at gv;simp only[Bool.true_eq_false,false_and,if_false]at gv;have tl:∀B,ad [] a B->hp B a.heap.size=some (.cells (ba (h.1,h.2.1,iD x.chunks,x.off,n)).toArray 32)->
    P44_0 (bS g) (.pointer (some ⟨w.heap.size+1,0,none⟩)) (.pointer (some ⟨b,i*7,none⟩)) (bN (bF x.cls n)) (bS a.heap.size) (.bool true) B λv f=>v= .bool (gX m n h r).1/\∃E,kt f g (gX m n h r).2 E/\aO F E w f:=by
   intro B c6 J;have t:=j _ B c6 J;rw[gv];by_cases q:r=(0,(h.1,h.2.1,iD x.chunks,x.off,n),0,0)
   ·rw[bU q,bU q]at t;rw[bU q];exact t
   ·rw[bV q,bV q]at t;rw[bV q];exact t
  have D:ad [] A A.drew:=(ad.refl _ _).drew;have R4:=V.ao W;have cn:=c_mNewest (R4.ao D) (cU R.cl dB);have a9:∀l L,hp l a.heap.size=some (.cells (ba (h.1,h.2.1,r.2.1.2.2.1,0,n)).toArray 32)->ck prog (Instr.storeAt 3 (.pointer (some ⟨a.heap.size,0+2,none⟩)) (bN (iD x.chunks))) l L=L (put l a.heap.size (ba (h.1,h.2.1,iD x.chunks,0,n)).toArray 32):=by
   intro l L C;rw[gB (o:=0+2) rfl rfl (by rw[C];rfl),C];rfl
  have b1:∀l L,hp l a.heap.size=some (.cells (ba (h.1,h.2.1,iD x.chunks,0,n)).toArray 32)->ck prog (Instr.storeAt 3 (.pointer (some ⟨a.heap.size,0+3,none⟩)) (bN x.off)) l L=L (put l a.heap.size (ba (h.1,h.2.1,iD x.chunks,x.off,n)).toArray 32):=by
   intro l L C;rw[gB (o:=0+3) rfl rfl (by rw[C];rfl),C];rfl
  simp only[zS,fa_99_2,ag,show an (hp A b) (i*7+3)=_ from R4.c3];repeat' (with_reducible apply And.intro)
  all_goals
   refine cn.mono ?_;rintro _ l ⟨rfl,Z⟩;have s:=Y.trans (D.trans Z);have C:=Z.at (show hp A.drew a.heap.size=_ from z) (by simp);have R5:=(V.ao s).c3;have h6:hp (put l a.heap.size (ba (h.1,h.2.1,iD x.chunks,0,n)).toArray 32) a.heap.size=_:=ar (aD C) _ _;have a1:ad [] a (put l a.heap.size (ba (h.1,h.2.1,iD x.chunks,0,n)).toArray 32):=s.put (.inr (cy _)) _ _;have R6:=(V.ao a1).c3;simp only[zS,hC,R5];rw[a9 _ _ C];simp only[zS,R6,b1 _ _ h6];exact tl _ (a1.put (.inr (cy _)) _ _) (ar (aD h6) _ _)
 |false=>
  rw[d]at j;have ew:nL m.c.2.2.1 (bF x.cls n) n x h r.2.1.2.2.1=(h.1,h.2.1,r.2.1.2.2.1,0,n):=by rw[nL,d];rfl
  rw[d,ew]at gv;simp only[true_and]at gv;have b2:be prog .eql 35 (.tmp 51) (.tmp 52) (.agg (gw r).toArray) (.agg #[bN 6,bN 0,bN 0,bN 0,bN 0,bN 0,bN 0,bR 0])=some (.bool (decide (r=bn 6))):=be_rs r (bn 6);simp only[zS,eP a5,bd_35_0,b2];by_cases Q:r=bn 6
  ·rw[bU Q]at gv;simp only[cr Q,zS];rw[gv];exact⟨by first|rfl|trivial,F,I.ao e,aO.bL e⟩
  rw[bV Q]at gv;have D:ad [] A A.drew:=(ad.refl _ _).drew;have e2:(ba (h.1,h.2.1,r.2.1.2.2.1,0,n)).toArray[0+2]? =some (bN r.2.1.2.2.1):=rfl;by_cases n0:r.2.1.2.2.1<0
  ·rw[bU (.inl n0)]at gv;simp only[bZ Q,zS,z,e2,n0];rw[gv];exact⟨by first|rfl|trivial,F,I.ao (e.trans D),aO.bL (e.trans D)⟩
  by_cases n1:m.c.2.1<=r.2.1.2.2.1
  ·rw[bU (.inr (.inl n1))]at gv;simp only[bZ Q,zS,ag,z,e2,n0,sE,jo,X _ e,n1];rw[gv];exact⟨by first|rfl|trivial,F,I.ao (e.trans D),aO.bL (e.trans D)⟩
  simp only[bZ Q,zS,ag,z,e2,n0,sE,jo,X _ e,n1];refine(c_mTaken (M.ao (e.trans D)) P dB r.2.1.2.2.1).mono ?_;rintro _ l ⟨rfl,Z⟩;have s:=Y.trans (D.trans Z);have C:=Z.at (show hp A.drew a.heap.size=_ from z) (by simp);cases ht:jf m r.2.1.2.2.1 with
  |true=>
   rw[bU (.inr (.inr ht))]at gv;simp only[zS];rw[gv];exact⟨by first|rfl|trivial,F,I.ao (p.trans s),aO.bL (p.trans s)⟩
  |false=>
   rw[bV (by rintro(h1|h1|h1);exact n0 h1;exact n1 h1;rw[ht]at h1;cases h1)]at gv;simp only[zS];have t:=j _ l s C;rw[gv];by_cases q:r=(0,(h.1,h.2.1,r.2.1.2.2.1,0,n),0,0)
   ·rw[bU q,bU q]at t;rw[bU q];exact t
   ·rw[bV q,bV q]at t;rw[bV q];exact t
theorem c_mDo(I:kt w g m F)(D:Wf m K)(T:K+1<=1000000)(n:Int)(o:eu)(h:eN)(r:jI):
  aa prog 18 [bS g,bN n,.agg (cI o).toArray,.agg (ba h).toArray,.agg (gw r).toArray] w λv y=>v= .bool (doV m n o h r).1/\∃U,kt y g (doV m n o h r).2 U/\aO F U w y:=by
 apply F18_ok;simp only[F18,ak,aq,ah];generalize j:((w.alloc (.cells (cI o).toArray 37)).alloc _).alloc _=w1;have E:ad [] w w1:=by rw[<- j];exact(((ad.refl _ _).alloc _).alloc _).alloc _
 have L:hp w1 w.heap.size=some (.cells (cI o).toArray 37):=by rw[<- j,af,ah,ah,bV dB,af,ah,bV dB,af,bU rfl]
 have V:hp w1 (w.heap.size+1)=some (.cells (ba h).toArray 32):=by rw[<- j,af,ah,ah,bV dB,af,ah,bU rfl]
 have Z:hp w1 (w.heap.size+1+1)=some (.cells (gw r).toArray 35):=by rw[<- j,af,ah,ah,bU rfl]
 clear j;have k:∀y,hp y w.heap.size=some (.cells (cI o).toArray 37)->gi prog 37 (bS w.heap.size) y=some (.agg (cI o).toArray):=λy j=>aR (t:=37) (c:=(cI o).toArray) td (show(Tryz.prog.info? 37).map (·.size)=some (cI o).toArray.size from nC) j;obtain⟨_,_,_,M⟩:=I.rd;simp only[ac,k _ L];refine(c_mMay (M.ao E) n o).mono ?_;rintro _ w2 ⟨rfl,G⟩;have l:=E.trans G;have b7:=G.at L (by simp);have b8:=G.at V (by simp);cases p:lK m n o with
 |false=>
  simp only[zS];have e:doV m n o h r=(false,m):=by rw[doV,bU p]
  rw[e];exact⟨by first|rfl|trivial,F,I.ao l,aO.bL l⟩
 |true=>
  obtain⟨d,O⟩:=may_hd p;simp only[zS,k _ b7,iU b8];refine(c_mMust (I.ao l) D dB n o h).mono ?_;rintro _ H ⟨rfl,c3⟩;have z:=G.trans c3;have a1:=E.trans z;simp only[kG,kH,zS,al_35];rw[lh (c:=(gw lR).toArray) (e:=35) (by rw[af,bU rfl];rfl) rfl];generalize s:put (H.alloc _) H.heap.size _ _=W;have c4:ad [] H W:=by rw[<- s];exact((ad.refl _ _).alloc _).put (.inr (cy _)) _ _
  have P:hp W H.heap.size=some (.cells (gw (eG m n o h).1).toArray 35):=by rw[<- s];exact ar (by simp) _ _
  clear s;have f:=z.trans c4;have a:=E.trans f;have Q:=f.at L (by simp);have X:=f.at V (by simp);have J:=f.at Z (by simp);have R:be prog .neq 35 (.tmp 27) (.tmp 28) (.agg (gw r).toArray) (.agg (gw (eG m n o h).1).toArray)=some (.bool (!decide (r=(eG m n o h).1))):=be_nrs r _;cases S:(eG m n o h).2 with
  |true=>
   simp only[zS,eP J,eP P,R];have b:doV m n o h r=if r=(eG m n o h).1 then(true,if r.1=0 then fD m n o h else m)else(false,m):=by rw[doV,bV (by rw[p];simp),bU S]
   by_cases A:r=(eG m n o h).1
   ·rw[bU A]at b;simp only[cr A,zS,kR,jd,J,rs_0];by_cases B:r.1=0
    ·rw[bU B]at b;have e0:(r.1==0)=true:=by rw[B];rfl
     have u:=must_fine p O (by rw[<- A];exact B);simp only[e0,zS,k _ Q,iU X];refine(c_mDoes (I.ao a) D dB p O u).mono ?_;rintro _ Y ⟨rfl,F5,C,u5⟩;apply L18_0_ok;rw[b];exact⟨rfl,F5,C,u5.pre a⟩
    ·rw[bV B]at b;simp only[aW B,zS];apply L18_0_ok;rw[b];exact⟨rfl,F,I.ao a,aO.bL a⟩
   ·rw[bV A]at b;simp only[bZ A,zS];rw[b];exact⟨by first|rfl|trivial,F,I.ao a,aO.bL a⟩
  |false=>
   obtain⟨u,hk⟩:=must_open p O S;have b:doV m n o h r=if o.1=1 then bT m o.2.2.2.1 r else gX m o.2.2.2.1 h r:=by rw[doV,bV (by rw[p];simp),bV (by rw[S];simp)]
   by_cases k1:o.1=1
   ·rw[bU k1]at b;have q:(o.1==1)=true:=by rw[k1];rfl
    simp only[zS,am,bc,ag,Q,aJ,lV,q,eP J];refine(c_mCreates (I.ao a) D T o.2.2.2.1 r).mono ?_;rintro _ Y ⟨rfl,F5,C,u5⟩;rw[b];exact⟨rfl,F5,C,u5.pre a⟩
   ·rw[bV k1]at b;obtain⟨i,x,hf,_,_,_⟩:=pI u dB;simp only[zS,am,bc,ag,Q,aJ,lV,aW k1,eP J,iU X];refine(c_mGives (I.ao a) D T o.2.2.2.1 h r hf).mono ?_;rintro _ Y ⟨rfl,F5,C,u5⟩;rw[b];exact⟨rfl,F5,C,u5.pre a⟩
end
section
variable{w:World}{g:Nat}{m:dI}{F:Fp}{K:Nat}
theorem kE(n a b:Int)(w:World):aa prog 61 [bN n,bN a,bN b] w λv d=>v= .bool (decide (a<=n/\n<=b))/\d=w:=by
 apply F61_ok;by_cases c:a<=n
 ·simp only[F61,zS,c,true_and,and_self]
 ·simp only[F61,zS,c,false_and,and_self]
def jw(c:cx):Bool:=decide (1<=c.1/\c.1<=64)&&(decide (1<=c.2.1/\c.2.1<=4096)&&(decide (8<=c.2.2.1/\c.2.2.1<=1024)&&(decide (c.2.2.1%8=0)&&(decide (1<=c.2.2.2.1/\c.2.2.2.1<=4096)&&(decide (0<=c.2.2.2.2.1/\c.2.2.2.2.1<=64)&&decide (1<=c.2.2.2.2.2/\c.2.2.2.2.2<=8))))))
theorem cf_0(c:cx):(dN c).toArray[0+0]? =some (bN c.1):=rfl
theorem cf_1(c:cx):(dN c).toArray[0+1]? =some (bN c.2.1):=rfl
theorem cf_2(c:cx):(dN c).toArray[0+2]? =some (bN c.2.2.1):=rfl
theorem cf_3(c:cx):(dN c).toArray[0+3]? =some (bN c.2.2.2.1):=rfl
theorem cf_4(c:cx):(dN c).toArray[0+4]? =some (bN c.2.2.2.2.1):=rfl
theorem cf_5(c:cx):(dN c).toArray[0+5]? =some (bN c.2.2.2.2.2):=rfl
theorem fM{c:cx}{g:Nat}{e:TypeId}(hb:hp w g=some (.cells (dN c).toArray e)):gi prog 25 (bS g) w=some (.agg (dN c).toArray):=aR (t:=25) (c:=(dN c).toArray) ag_25 (show(Tryz.prog.info? 25).map (·.size)=some (dN c).toArray.size from sz_25) hb
theorem c_layMay(c:cx)(w:World):aa prog 32 [.agg (dN c).toArray] w λv m=>v= .bool (jw c)/\ad [] w m:=by
 apply F32_ok;have b:hp (w.alloc (.cells (dN c).toArray 25)) w.heap.size=some (.cells (dN c).toArray 25):=by rw[af,bU rfl]
 have a:ad [] w (w.alloc (.cells (dN c).toArray 25)):=(ad.refl _ _).alloc _;simp only[F32,ak,aq];generalize w.alloc (.cells (dN c).toArray 25)=w0 at*;simp only[zS,fq,ag,b,cf_0];refine(kE _ _ _ w0).step ?_;by_cases e:1<=c.1/\c.1<=64
 ·simp only[cr e,zS,jo,ag,b,cf_1];refine(kE _ _ _ w0).step ?_;by_cases f:1<=c.2.1/\c.2.1<=4096
  ·simp only[cr f,zS,eW,ag,b,cf_2];refine(kE _ _ _ w0).step ?_;by_cases d:8<=c.2.2.1/\c.2.2.1<=1024
   ·have l:c.2.2.1.tmod 8=c.2.2.1%8:=Int.tmod_eq_emod_of_nonneg dB;by_cases g:c.2.2.1%8=0
    ·have n:(c.2.2.1%8==0)=true:=by rw[g];rfl
     simp only[cr d,zS,gj,ag,b,cf_2,cf_3,km (show(8:Int)≠0 by decide),l,n];refine(kE _ _ _ w0).step ?_;by_cases i:1<=c.2.2.2.1/\c.2.2.2.1<=4096
     ·simp only[cr i,zS,fa_25_4,ag,b,cf_4];refine(kE _ _ _ w0).step ?_;by_cases j:0<=c.2.2.2.2.1/\c.2.2.2.2.1<=64
      ·simp only[cr j,zS,fa_25_5,ag,b,cf_5];refine(kE _ _ _ w0).step ?_;by_cases k:1<=c.2.2.2.2.2/\c.2.2.2.2.2<=8
       ·simp only[cr k];exact⟨by simp[jw,e,f,d,g,i,j,k],a⟩
       ·simp only[bZ k];exact⟨by rw[jw,bZ k];simp,a⟩
      ·simp only[bZ j,zS];exact⟨by rw[jw,bZ j];simp,a⟩
     ·simp only[bZ i,zS];exact⟨by rw[jw,bZ i];simp,a⟩
    ·simp only[cr d,zS,ag,b,cf_2,km (show(8:Int)≠0 by decide),l,aW g];exact⟨by rw[jw,bZ g];simp,a⟩
   ·simp only[bZ d,zS];exact⟨by rw[jw,bZ d];simp,a⟩
  ·simp only[bZ f,zS];exact⟨by rw[jw,bZ f];simp,a⟩
 ·simp only[bZ e,zS];exact⟨by rw[jw,bZ e];simp,a⟩
def qR(c:cx)(loose:Bool):dI:=⟨c,loose,List.replicate c.2.2.2.1.toNat (0,0), [],List.replicate c.1.toNat ⟨0, []⟩⟩
theorem may_cf{c:cx}(h:jw c=true):(1<=c.1/\c.1<=64)/\(1<=c.2.1/\c.2.1<=4096)/\(8<=c.2.2.1/\c.2.2.1<=1024)/\(1<=c.2.2.2.1/\c.2.2.2.1<=4096):=by
 simp only[jw,cZ,decide_eq_true_eq]at h;exact⟨h.1,h.2.1,h.2.2.1,h.2.2.2.2.1⟩
theorem wf_new{c:cx}(h:jw c=true)(l:Bool):Wf (qR c l) 0:=by
 obtain⟨f,g,a,i⟩:=may_cf h;refine⟨by show 1<=c.2.2.1;omega,a.2,by simp only[qR,dz];omega,λp hp=>?_,λd b=>?_,cy _,λr e=>by cases e⟩
 ·rw[List.eq_of_mem_replicate hp];exact⟨dm _,dC⟩
 ·rw[List.eq_of_mem_replicate b];exact⟨dm _,dC,cQ _⟩
theorem made_flat{zs:List Value}{z:Nat}(a:zs.length=z)(d:0<z)(n:Nat):madeCells zs.toArray (n*z)=((List.replicate n ()).flatMap λ_=>zs).toArray:=by
 apply Array.ext_getElem?;intro k;rcases dh k (n*z)with hk|hk
 ·have i:k/z<n:=by rw[Nat.div_lt_iff_lt_mul d];exact hk
  have g:=Nat.mod_lt k d;have b:k=k/z*z+k%z:=by rw[Nat.mul_comm];exact(Nat.div_add_mod k z).symm
  have e:=bK (f:=λ_:Unit=>zs) (λ_=>a) (List.replicate n ()) (k/z) () (by simp[i]) (k%z) g;rw[<- b]at e;have c:(((List.replicate n ()).flatMap λ_=>zs).toArray)[k]? =zs[k%z]? :=by rw[List.getElem?_toArray,e]
  rw[c,bX dB];simp only[madeCells,Array.getElem?_map,Array.getElem?_range,hk,if_true,Option.map_some,List.size_toArray,a];rw[getElem!_pos _ _ (by simp[a];exact g)];simp
 ·have c:((List.replicate n ()).flatMap λ_=>zs).length=n*z:=by rw[hU (z:=z) (λ_=>a)];simp
  rw[Array.getElem?_eq_none (by simp[madeCells];omega),Array.getElem?_eq_none (by rw[List.size_toArray,c];exact hk)]
theorem row_new{e:TypeId}(n:Nat)(d:n<=maxLen)(a b:Value):(w.alloc (.cells ((List.replicate n ()).flatMap λ_=> [a,b]).toArray e)).ownsRow 0 e 2 (.slice (some ⟨w.heap.size,0,none⟩) n n) n ((List.replicate n ()).flatMap λ_=> [a,b]):=by
 have c:((List.replicate n ()).flatMap λ_=> [a,b]).length=n*2:=by rw[hU (z:=2) (λ_=>rfl)];simp
 exact⟨c,.inr ⟨w.heap.size,n,_,rfl,cQ _,heap_alloc_new w _,cy _,d,by rw[List.size_toArray];exact c,by simp[dA (show((List.replicate n ()).flatMap λ_=> [a,b]).length<=n*2 by rw[c];exact cy _)]⟩⟩
theorem own_of_row{n:Nat}:(λb=>(Value.slice (some ⟨w.heap.size,0,none⟩) n n).ownBlock=some b)=(λb=>b=w.heap.size):=by
 funext b;simp[Value.ownBlock,eq_comm]
theorem slots_new(n:Nat)(c:n<=maxLen):k0 (List.replicate n (0,0)) (w.alloc (.cells ((List.replicate n ()).flatMap λ_=> [Value.int .i64 0,Value.int .i64 0]).toArray 142)) (λb=>b=w.heap.size) (.slice (some ⟨w.heap.size,0,none⟩) n n):=by
 have a:=pC (row_new (w:=w) (e:=142) n c (bN 0) (bN 0));rw[own_of_row]at a;have e:(List.replicate n ((0:Int),(0:Int))).flatMap gD=(List.replicate n ()).flatMap λ_=> [Value.int .i64 0,Value.int .i64 0]:=by
  induction n with
  |zero=>rfl
  |succ n d=>rw[List.replicate_succ,List.replicate_succ,dj,dj,d dB (own_of_row▸pC (row_new n dB _ _))];rfl
 rw[k0,dz,e];exact a
theorem hands_new(n:Nat)(i:n<=maxLen):lW (List.replicate n ⟨0, []⟩) (w.alloc (.cells ((List.replicate n ()).flatMap λ_=> [Value.int .i64 0,Value.slice none 0 0]).toArray 136)) (λb=>b=w.heap.size) (.slice (some ⟨w.heap.size,0,none⟩) n n):=by
 have h:=row_new (w:=w) (e:=136) n i (bN 0) (.slice none 0 0);refine⟨_,λ_=>cL,by rw[dz];exact h,⟨?_,λk P v a c=>?_,λ_ _ _ _ _ b hb _=>hb⟩,λb ⟨_,_,hb⟩=>hb.elim,λb=>⟨λhb=> .inl (by rw[hb];rfl),λhb=>?_⟩⟩
 ·rw[hU (z:=2) sK,hU (z:=2) (λ_=>rfl)];simp
 ·have j:=(bY.1 a).1;rw[hU (z:=2) sK,dz]at j;have g:k/2<n:=dB;have d:k=k/2*2+k%2:=dB;rw[d]at a c;rw[bK sK _ (k/2) ⟨0, []⟩ (by simp[g]) (k%2) dB]at a;rw[bK (z:=2) (f:=λ_:Unit=> [Value.int .i64 0,Value.slice none 0 0]) (λ_=>rfl) _ (k/2) () (by simp[g]) (k%2) dB]at c;have h2:k%2=0\/k%2=1:=dB;rcases h2 with h2|h2<;>rw[h2]at a c<;>cases a<;>cases c
  ·exact⟨rfl,λ_ h=>h⟩
  ·exact aZ.nil
 ·rcases hb with hb|⟨_,_,hb⟩
  ·simp[Value.ownBlock]at hb;exact hb.symm
  ·exact hb.elim
theorem model_parts{c:cx}{S R H:List Value}{m:dI}{o rv p:Value}{f Fr g:Fp}(z:m.c=c)(A:k0 m.slots w f o)(B:mN m.rgs w Fr rv)(C:lW m.hands w g p)(q:FDis f Fr)(r:FDis f g)(s:FDis Fr g):
  fX w (mdT m) (dN c++ [.bool m.loose,o,rv,p]) (λk=>if k=7 then f else if k=8 then Fr else if k=9 then g else cL):=by
 subst z;refine⟨rfl,λk P v t i=>?_,λj k G u D b E F=>?_⟩
 ·have u:=(bY.1 t).1;have l:(mdT m).length=10:=rfl;rw[l]at u;have n:k=0\/k=1\/k=2\/k=3\/k=4\/k=5\/k=6\/k=7\/k=8\/k=9:=dB;rcases n with rfl|rfl|rfl|rfl|rfl|rfl|rfl|rfl|rfl|rfl<;>cases t<;>cases i
  ·exact⟨rfl,λ_ h=>h⟩
  ·exact⟨rfl,λ_ h=>h⟩
  ·exact⟨rfl,λ_ h=>h⟩
  ·exact⟨rfl,λ_ h=>h⟩
  ·exact⟨rfl,λ_ h=>h⟩
  ·exact⟨rfl,λ_ h=>h⟩
  ·exact⟨rfl,λ_ h=>h⟩
  ·exact A
  ·exact B
  ·exact C
 ·have e:∀k,(if k=7 then f else if k=8 then Fr else if k=9 then g else cL) b->(k=7/\f b)\/(k=8/\Fr b)\/(k=9/\g b):=by
   intro k h;split at h
   ·exact .inl ⟨by assumption,h⟩
   split at h
   ·exact .inr (.inl ⟨by assumption,h⟩)
   split at h
   ·exact .inr (.inr ⟨by assumption,h⟩)
   ·exact h.elim
  rcases e j E with⟨x,a⟩|⟨x,a⟩|⟨x,a⟩<;>rcases e k F with⟨y,d⟩|⟨y,d⟩|⟨y,d⟩
  ·omega
  ·exact q b a d
  ·exact r b a d
  ·exact q b d a
  ·omega
  ·exact s b a d
  ·exact r b d a
  ·exact s b d a
  ·omega
end
section
variable{w:World}{g:Nat}{m:dI}{F:Fp}{K:Nat}
def Made(w:World)(c:cx)(m:dI)(v:Value)(a:World):Prop:=ad [] w a/\((jw c=false/\v= .tuple #[.pointer none,bN 1])\/(jw c=true/\∃g F,v= .tuple #[bS g,bN 0]/\kt a g m F/\∀k,F k->w.heap.size<=k))
theorem c_mNew(c:cx)(w:World):aa prog 35 [.agg (dN c).toArray] w λv Y=>Made w c (qR c false) v Y:=by
 apply F35_ok;have Q:hp (w.alloc (.cells (dN c).toArray 25)) w.heap.size=some (.cells (dN c).toArray 25):=by rw[af,bU rfl]
 have Z:ad [] w (w.alloc (.cells (dN c).toArray 25)):=(ad.refl _ _).alloc _;simp only[F35,ak,aq];generalize w.alloc (.cells (dN c).toArray 25)=w0 at*;simp only[fM Q,ac];refine(c_layMay c w0).mono ?_;rintro _ w1 ⟨rfl,k1⟩;have T:=Z.trans k1;have U:=k1.at Q (by simp);cases u:jw c with
 |false=>
  simp only[zS];exact⟨T,.inl ⟨u,by first|rfl|trivial⟩⟩
 |true=>
  obtain⟨o,V,h3,h4⟩:=may_cf u;have x:hp w1.drew w.heap.size=some (.cells (dN c).toArray 25):=U;have y:=T.drew;obtain⟨is,z,A,p,B⟩:=inf_142;obtain⟨ih,C,D,q,E⟩:=inf_136;have e3:(dN c).toArray[0+3]? =some (bN ((c.2.2.2.1.toNat:Nat):Int)):=by rw[cf_3];congr;omega
  have e0:(dN c).toArray[0+0]? =some (bN ((c.1.toNat:Nat):Int)):=by rw[cf_0];congr;omega
  have nm:qR c false=⟨c,false,List.replicate c.2.2.2.1.toNat (0,0), [],List.replicate c.1.toNat ⟨0, []⟩⟩:=rfl;have l1:c.2.2.2.1.toNat<=4096:=dB;have l2:c.1.toNat<=64:=dB;generalize c.2.2.2.1.toNat=d at*;generalize c.1.toNat=e at*;have F:madeCells (Value.agg #[bN 0,bN 0]).cells (d*is.size)=((List.replicate d ()).flatMap λ_=> [Value.int .i64 0,Value.int .i64 0]).toArray:=by rw[p];exact made_flat (zs:= [Value.int .i64 0,Value.int .i64 0]) rfl dC d
  have G:madeCells (Value.agg #[bN 0,.slice none 0 0]).cells (e*ih.size)=((List.replicate e ()).flatMap λ_=> [Value.int .i64 0,Value.slice none 0 0]).toArray:=by rw[q];exact made_flat (zs:= [Value.int .i64 0,Value.slice none 0 0]) rfl dC e
  have fin:∀(w2:World) (s t:Fp) (sb hb:Nat),ad [] w w2->k0 (List.replicate d (0,0)) w2 s (.slice (some ⟨sb,0,none⟩) d d)->lW (List.replicate e ⟨0, []⟩) w2 t (.slice (some ⟨hb,0,none⟩) e e)->FDis s t->(∀ k,s k->w.heap.size<=k)->(∀ k,t k->w.heap.size<=k)->
    Made w c (qR c false) (.tuple #[bS w2.heap.size,bN 0]) (w2.alloc (.cells (dN c++ [Value.bool false,Value.slice (some ⟨sb,0,none⟩) d d,Value.slice none 0 0,Value.slice (some ⟨hb,0,none⟩) e e]).toArray 90)):=by
   intro w2 s t sb hb W hs hh hd I J;have K:=model_parts (S:= []) (R:= []) (H:= []) (m:=qR c false) (c:=c) (rv:= .slice none 0 0) (Fr:=cL) rfl (by rw[nm];exact hs) (by rw[nm];exact aZ.nil) (by rw[nm];exact hh) (λ_ _ h=>h) hd (λ_ h _=>h);refine⟨W.alloc _,.inr ⟨u,w2.heap.size,_,rfl,eR.new K (gO _),λk f=>?_⟩⟩;rcases f with f|⟨j,_,f⟩
   ·rw[f];exact W.size
   ·split at f
    ·exact I k f
    split at f
    ·exact f.elim
    split at f
    ·exact J k f
    ·exact f.elim
  have X:maxLen=maxLen:=rfl;have l:d<=maxLen/\e<=maxLen:=by unfold maxLen;omega
  simp only[zS,gj,fq,ag,fM x,U,e3,e0,jm (P:=prog) (kl:= .i64) (kc:= .i64) (n:=d) Tryz.underlying86 z A (by rw[p];omega) (by rw[B];omega) dB,jm (P:=prog) (kl:= .i64) (kc:= .i64) (n:=e) Tryz.underlying88 C D (by rw[q];omega) (by rw[E];omega) dB,F,G];have L:∀a b,ai prog (Instr.build 90 #[(0,.agg (dN c).toArray),(2,.slice (some ⟨a,0,none⟩) d d),(4,.slice (some ⟨b,0,none⟩) e e)])=some (.agg (dN c++ [Value.bool false,Value.slice (some ⟨a,0,none⟩) d d,Value.slice none 0 0,Value.slice (some ⟨b,0,none⟩) e e]).toArray):=λa b=>bd_90_0_2_4;simp only[L,ac,aq];have sz:w.heap.size<=w1.drew.heap.size:=y.size;constructor
  ·have M:=slots_new (w:=w1.drew) d l.1;generalize g:w1.drew.alloc (.cells ((List.replicate d ()).flatMap λ_=> [Value.int .i64 0,Value.int .i64 0]).toArray 142)=i at*;have O:ad [] w1.drew i:=by rw[<- g];exact(ad.refl _ _).alloc _
   have sA:i.heap.size=w1.drew.heap.size+1:=by rw[<- g,ah]
   have o:=hands_new (w:=i) e l.2;have r:ad [] i (i.alloc (.cells ((List.replicate e ()).flatMap λ_=> [Value.int .i64 0,Value.slice none 0 0]).toArray 136)):=(ad.refl _ _).alloc _;exact fin _ _ _ _ _ ((y.trans O).trans r) ((tK _).frame M (bl.bL r cL) λ_ _ h=>h) o (λk o V=>dB) (λk f=>dB) (λk f=>dB)
  ·have M:=hands_new (w:=w1.drew) e l.2;generalize g:w1.drew.alloc (.cells ((List.replicate e ()).flatMap λ_=> [Value.int .i64 0,Value.slice none 0 0]).toArray 136)=i at*;have O:ad [] w1.drew i:=by rw[<- g];exact(ad.refl _ _).alloc _
   have sA:i.heap.size=w1.drew.heap.size+1:=by rw[<- g,ah]
   have o:=slots_new (w:=i) d l.1;have r:ad [] i (i.alloc (.cells ((List.replicate d ()).flatMap λ_=> [Value.int .i64 0,Value.int .i64 0]).toArray 142)):=(ad.refl _ _).alloc _;exact fin _ _ _ _ _ ((y.trans O).trans r) o ((tL _).frame M (bl.bL r cL) λ_ _ h=>h) (λk o V=>dB) (λk f=>dB) (λk f=>dB)
end
end Go.Proofs.YtnpflajdbchghaaGreat
namespace Go.Proofs.YtnpflajdbchghaaGreat.Ev
open Tryz(prog)
open Go Go.RowKit
theorem lj{w a:World}(c:ad [] w a){b o:Nat}{v:Value}(h:an (hp w b) o=some v):an (hp a b) o=some v:=by
 have:hp a b=hp w b:=c.block b (by
  rcases dh b w.heap.size with h1|h1
  ·exact h1
  ·have d:hp w b=none:=by simp[hp];omega
   rw[d]at h;cases h) (by simp)
 rw[this];exact h
theorem eR.row{e:TypeId}{g:Nat}{t:List Th}{w:World}{F:Fp}(I:eR e g t w F)(M:∀P∈t,fR P){k:Nat}{e':TypeId}{z n:Nat}{Qs:List Th}(O:t[k]? =some (aZ e' z n Qs))(R:∀Q∈Qs,fR Q){j:Nat}{P:Th}(S:Qs[j]? =some P):
  ∃(b c:Nat) (v:Value) (l:Fp),an (hp w g) k=some (.slice (some ⟨b,0,none⟩) n c)/\b≠g/\F b/\(∀ x,l x->F x)/\¬l b/\¬l g/\an (hp w b) j=some v/\P w l v/\
   (∀ w1 m i,aO l m w w1->i w1 m v->∃o,eR e g (t.set k (aZ e' z n (Qs.set j i))) w1 o/\aO F o w w1)/\
   (∀ w1 m i v',aO l m w w1->fR i->i w1 m v'->pY (hp w1 b) (j+1)=true/\v'.cells= #[v']/\v'.oneCell'=true/\hp w1 g=hp w g/\
    ∃o,eR e g (t.set k (aZ e' z n (Qs.set j i))) (put w1 b ((dL (hp w1 b)).setIfInBounds j v') (dM (hp w1 b))) o/\aO F o w (put w1 b ((dL (hp w1 b)).setIfInBounds j v') (dM (hp w1 b)))):=by
 obtain⟨rv,Fr,T,y,q,s,U,r,_⟩:=eR.cell I M O;obtain⟨b,c,v,l,E,A,G,a,B,V,W,X⟩:=aZ.cell U R S;subst E;have H:b≠g:=λe=>y (by rw[<- e];exact A);have C:¬l g:=λh=>y (a g h);refine⟨b,c,v,l,s,H,q b A,λx E=>q x (a x E),G,C,B,V,λw1 m i u p=>?_,λw1 m i v' u D p=>?_⟩
 ·obtain⟨o,d,f⟩:=W w1 m i u p;obtain⟨J,K,L⟩:=r _ o _ f d;exact⟨J,K,L⟩
 ·obtain⟨ok,o,d,f⟩:=X w1 m i v' u D p;obtain⟨J,K,L⟩:=r _ o _ f d;obtain⟨Y,Z⟩:=D.one p;refine⟨ok,Y,Z,?_,J,K,L⟩;exact u.aF.block g (by
   rcases dh g w.heap.size with h|h
   ·exact h
   ·have h2:hp w g=none:=by simp[hp];omega
    rw[h2]at s;cases s) C
theorem eR.repl{e:TypeId}{g:Nat}{m:List Th}{w:World}{F:Fp}(I:eR e g m w F)(q:∀P∈m,fR P){k:Nat}{P:Th}(r:m[k]? =some P):
  ∃(v:Value) (b:Fp),(∀ x,b x->F x)/\¬b g/\an (hp w g) k=some v/\P w b v/\
   ∀w1 n c v',aO b n w w1->fR c->c w1 n v'->pY (hp w1 g) (k+1)=true/\v'.cells= #[v']/\v'.oneCell'=true/\hp w1 g=hp w g/\
    ∃o,eR e g (m.set k c) (put w1 g ((dL (hp w1 g)).setIfInBounds k v') (dM (hp w1 g))) o/\aO F o w (put w1 g ((dL (hp w1 g)).setIfInBounds k v') (dM (hp w1 g))):=by
 obtain⟨v,b,s,d,f,a,t,_,i⟩:=eR.cell I q r;refine⟨v,b,f,d,a,t,λw1 n c v' u j l=>?_⟩;obtain⟨ok,o,y,p⟩:=i w1 n c v' u j l;obtain⟨z,A⟩:=j.one l;refine⟨ok,z,A,u.aF.block g (by
  rcases dh g w.heap.size with h|h
  ·exact h
  ·have p:hp w g=none:=by simp[hp];omega
   rw[p]at a;cases a) d,o,y,p⟩
end Go.Proofs.YtnpflajdbchghaaGreat.Ev
namespace Go.Proofs.YtnpflajdbchghaaGreat
open Tryz(prog)
open Go Ev Go.RowKit
structure RfV where
 c:cx
 loose:Bool
 state:List Int
 gen:List Int
 rgs:List (fL×Bool)
 depth:List Int
 holds:List (List iH)
def nO(L:List iH):Th:=aZ 256 2 L.length ((L.flatMap gD).map kY)
def rrT(p:fL×Bool):List Th:= [iT p.1.nm.1,iT p.1.nm.2,iT p.1.cls,iT p.1.off,kY (.bool p.2),fA p.1.chunks,gS p.1.words,oF p.1.objs]
def tN(L:List (fL×Bool)):Th:=aZ 250 8 L.length (L.flatMap rrT)
def qv(L:List (List iH)):Th:=aZ 161 1 L.length (L.map nO)
def rfT(x:RfV):List Th:=(dN x.c).map kY++ [kY (.bool x.loose),fA x.state,fA x.gen,tN x.rgs,fA x.depth,qv x.holds]
def jx(w:World)(g:Nat)(x:RfV)(F:Fp):Prop:=eR 182 g (rfT x) w F
def aL(m:dI):RfV:=⟨m.c,m.loose,m.slots.map (·.1),m.slots.map (·.2),m.rgs.map λr=>(r,ft m r.nm),m.hands.map (·.depth),m.hands.map (·.holds)⟩
theorem good_keys(L:List iH):fR (nO L):=fY (gF (nmC_int L))
theorem good_rr(p:fL×Bool):∀P∈rrT p,fR P:=λP a=>by
 simp only[rrT,cV,dx,or_false]at a;rcases a with rfl|rfl|rfl|rfl|rfl|rfl|rfl|rfl
 ·exact fe _ _
 ·exact fe _ _
 ·exact fe _ _
 ·exact fe _ _
 ·exact pB ⟨rfl,rfl⟩
 ·exact ga _
 ·exact gV _
 ·exact kC _
theorem iK(L:List (fL×Bool)):∀P∈L.flatMap rrT,fR P:=λP a=>by
 obtain⟨r,_,b⟩:=List.mem_flatMap.1 a;exact good_rr r P b
theorem good_rrs(L:List (fL×Bool)):fR (tN L):=fY (iK L)
theorem rP(L:List (List iH)):∀P∈L.map nO,fR P:=λP a=>by
 obtain⟨l,_,rfl⟩:=List.mem_map.1 a;exact good_keys l
theorem good_holds(L:List (List iH)):fR (qv L):=fY (rP L)
theorem gp(x:RfV):∀P∈rfT x,fR P:=λP b=>by
 rcases List.mem_append.1 b with h|h
 ·refine gF (λu a=>?_) P h;simp only[dN,cV,dx,or_false]at a;rcases a with rfl|rfl|rfl|rfl|rfl|rfl<;>exact⟨_,_,rfl⟩
 ·simp only[cV,dx,or_false]at h;rcases h with rfl|rfl|rfl|rfl|rfl|rfl
  ·exact pB ⟨rfl,rfl⟩
  ·exact ga _
  ·exact ga _
  ·exact good_rrs _
  ·exact ga _
  ·exact good_holds _
theorem sN(p:fL×Bool):(rrT p).length=8:=rfl
theorem jx.ao{w a:World}{g:Nat}{x:RfV}{F:Fp}(h:jx w g x F)(b:ad [] w a):jx a g x F:=eR.frame h (gp x) (bl.bL b cL) λ_ _ h=>h
structure RfR(w:World)(g:Nat)(x:RfV)(s gn r d h:Value):Prop where
 c:∀k,k<6->an (hp w g) (0+0+k)=(dN x.c)[k]?
 l:an (hp w g) (0+6)=some (.bool x.loose)
 sl:an (hp w g) (0+7)=some s
 gl:an (hp w g) (0+8)=some gn
 rl:an (hp w g) (0+9)=some r
 dl:an (hp w g) (0+10)=some d
 hl:an (hp w g) (0+11)=some h
 sT:∃F,fA x.state w F s
 gT:∃F,fA x.gen w F gn
 rT:∃F,tN x.rgs w F r
 dT:∃F,fA x.depth w F d
 hT:∃F,qv x.holds w F h
theorem jx.rd{w:World}{g:Nat}{x:RfV}{F:Fp}(h:jx w g x F):∃s gn r d a,RfR w g x s gn r d a:=by
 obtain⟨f,_,_,_,_,i,j,_⟩:=eR.cell h (gp x) (k:=7) (P:=fA x.state) rfl;obtain⟨gv,_,_,_,_,l,m,_⟩:=eR.cell h (gp x) (k:=8) (P:=fA x.gen) rfl;obtain⟨rv,_,_,_,_,n,o,_⟩:=eR.cell h (gp x) (k:=9) (P:=tN x.rgs) rfl;obtain⟨p,_,_,_,_,q,t,_⟩:=eR.cell h (gp x) (k:=10) (P:=fA x.depth) rfl;obtain⟨v,_,_,_,_,a,y,_⟩:=eR.cell h (gp x) (k:=11) (P:=qv x.holds) rfl;obtain⟨lv,_,_,_,_,z,A,_⟩:=eR.cell h (gp x) (k:=6) (P:=kY (.bool x.loose)) rfl;refine⟨f,gv,rv,p,v,λk b=>?_,z.trans (by rw[A.1]),i,l,n,q,a,⟨_,j⟩,⟨_,m⟩,⟨_,o⟩,⟨_,t⟩,⟨_,y⟩⟩;obtain⟨u,e⟩:∃u,(dN x.c)[k]? =some u:=⟨_,bX (by simpa [dN]using b)⟩
 have B:(rfT x)[k]? =some (kY u):=by
  rw[rfT,List.getElem?_append_left (by simpa [dN]using b),cN,e];rfl
 obtain⟨E,_,_,_,_,C,D,_⟩:=eR.cell h (gp x) B;rw[show 0+0+k=k by omega,C,D.1,e]
structure RrR(w:World)(b o:Nat)(p:fL×Bool)(cv wv ov:Value):Prop where
 c0:an (hp w b) (o+0)=some (bN p.1.nm.1)
 c1:an (hp w b) (o+1)=some (bN p.1.nm.2)
 c2:an (hp w b) (o+2)=some (bN p.1.cls)
 c3:an (hp w b) (o+3)=some (bN p.1.off)
 c4:an (hp w b) (o+4)=some (.bool p.2)
 c5:an (hp w b) (o+5)=some cv
 c6:an (hp w b) (o+6)=some wv
 c7:an (hp w b) (o+7)=some ov
 cT:∃F,fA p.1.chunks w F cv
 wT:∃F,gS p.1.words w F wv
 oT:∃F,oF p.1.objs w F ov
theorem rr_at{w:World}{L:List (fL×Bool)}{F:Fp}{x:Value}(h:tN L w F x){i:Nat}{r:fL×Bool}(j:L[i]? =some r):∃b c,x= .slice (some ⟨b,0,none⟩) L.length c/\∃l wv ov,RrR w b (i*8) r l wv ov:=by
 have get:∀k,k<8->(L.flatMap rrT)[i*8+k]? =(rrT r)[k]? :=λk m=>bK sN L i r j k m;obtain⟨b,c,P,F0,n,_,_,_,a,o,_⟩:=aZ.cell h (iK L) (get 0 dB);obtain⟨Q,R,S,T,p,_,_,_,d,q,_⟩:=aZ.cell h (iK L) (get 1 dB);obtain⟨U,V,v2,W,s,_,_,_,e,t,_⟩:=aZ.cell h (iK L) (get 2 dB);obtain⟨X,Y,Z,F3,u,_,_,_,f,v,_⟩:=aZ.cell h (iK L) (get 3 dB);obtain⟨b4,c4,v4,F4,y,_,_,_,g,z,_⟩:=aZ.cell h (iK L) (get 4 dB);obtain⟨b5,c5,A,F5,B,_,_,_,C,D,_⟩:=aZ.cell h (iK L) (get 5 dB);obtain⟨b6,c6,E,F6,G,_,_,_,H,I,_⟩:=aZ.cell h (iK L) (get 6 dB);obtain⟨b7,c7,J,F7,K,_,_,_,M,O,_⟩:=aZ.cell h (iK L) (get 7 dB);subst n;cases p;cases s;cases u;cases y;cases B;cases G;cases K;rw[o.1]at a;rw[q.1]at d;rw[t.1]at e;rw[v.1]at f;rw[z.1]at g;exact⟨b,c,rfl,A,E,J,a,d,e,f,g,C,H,M,⟨F5,D⟩,⟨F6,I⟩,⟨F7,O⟩⟩
theorem RrR.ao{w c:World}{b o:Nat}{p:fL×Bool}{d wv ov:Value}(k:RrR w b o p d wv ov)(a:ad [] w c):RrR c b o p d wv ov:=by
 obtain⟨F,e⟩:=k.cT;obtain⟨G,f⟩:=k.wT;obtain⟨H,g⟩:=k.oT;exact⟨ff a k.c0,ff a k.c1,ff a k.c2,ff a k.c3,ff a k.c4,ff a k.c5,ff a k.c6,ff a k.c7,
  ⟨F,(ga _).frame e (bl.bL a cL) λ_ _ h=>h⟩,⟨G,(gV _).frame f (bl.bL a cL) λ_ _ h=>h⟩,⟨H,(kC _).frame g (bl.bL a cL) λ_ _ h=>h⟩⟩
theorem RfR.ao{w a:World}{g:Nat}{x:RfV}{s gn r d h:Value}(k:RfR w g x s gn r d h)(b:ad [] w a):RfR a g x s gn r d h:=by
 have e:hp a g=hp w g:=b.block g (by
  rcases dh g w.heap.size with h1|h1
  ·exact h1
  ·have j:hp w g=none:=by simp[hp];omega
   have:=k.l;rw[j]at this;cases this) (by simp)
 have f:∀{L v},(∃ F,fA L w F v)->∃F,fA L a F v:=fun⟨F,m⟩=>⟨F,(ga _).frame m (bl.bL b cL) λ_ _ h=>h⟩
 obtain⟨G,n⟩:=k.rT;obtain⟨H,o⟩:=k.hT;exact⟨λi p=>by rw[e];exact k.c i p,by rw[e];exact k.l,by rw[e];exact k.sl,by rw[e];exact k.gl,by rw[e];exact k.rl,by rw[e];exact k.dl,by rw[e];exact k.hl,f k.sT,f k.gT,
  ⟨G,(good_rrs _).frame n (bl.bL b cL) λ_ _ h=>h⟩,f k.dT,⟨H,(good_holds _).frame o (bl.bL b cL) λ_ _ h=>h⟩⟩
theorem oG(n a b:Int)(w:World):aa prog 89 [bN n,bN a,bN b] w λv d=>v= .bool (decide (a<=n/\n<=b))/\d=w:=by
 apply F89_ok;by_cases c:a<=n
 ·simp only[F89,zS,c,true_and,and_self]
 ·simp only[F89,zS,c,false_and,and_self]
theorem c_rRight(a n:Int)(w:World):aa prog 209 [bN a,bN n] w λv c=>v= .bool (iC a n)/\c=w:=by
 apply F209_ok;simp only[F209];refine(oG a 1 1024 w).step ?_;by_cases b:1<=a/\a<=1024
 ·simp only[cr b,zS];refine(oG n 1 a w).step ?_;simp only[];exact⟨by simp[iC,b.1,b.2],trivial⟩
 ·simp only[bZ b,zS];refine⟨?_,trivial⟩;rw[iC,bZ (λh=>b ⟨h.1,h.2.1⟩)]
theorem c_rAlone(a n:Int)(w:World):aa prog 210 [bN a,bN n] w λv c=>v= .bool (mO a n)/\c=w:=by
 apply F210_ok;simp only[F210];refine(c_rRight a n w).step ?_;cases b:iC a n with
 |true=>
  have:=pF b;simp only[zS,aH,ap (n:=a-n) dB dB];refine⟨?_,trivial⟩;rw[mO,b,Bool.true_and];congr 2;exact propext ⟨λh=>dB,λh=>dB⟩
 |false=>
  simp only[zS];exact⟨by simp[mO,b],trivial⟩
theorem c_rFits2(a off n:Int)(w:World):aa prog 208 [bN a,bN off,bN n] w λv e=>v= .bool (lQ a off n)/\e=w:=by
 apply F208_ok;simp only[F208];refine(c_rRight a n w).step ?_;cases c:iC a n with
 |true=>
  have:=pF c;simp only[zS];refine(c_rAlone a n w).step ?_;cases d:mO a n with
  |true=>
   simp only[zS];exact⟨by simp[lQ,d],trivial⟩
  |false=>
   by_cases b:0<=off
   ·simp only[zS,aH,b,ap (n:=a-n) dB dB];exact⟨by simp[lQ,c,d,b],trivial⟩
   ·simp only[zS,b];exact⟨by simp[lQ,b],trivial⟩
 |false=>
  simp only[zS];exact⟨by simp[lQ,c],trivial⟩
theorem c_rAfter(a n:Int)(w:World):aa prog 171 [bN a,bN n] w λv d=>v=bN (eC a n)/\d=w:=by
 apply F171_ok;simp only[F171];refine(c_rRight a n w).step ?_;cases b:iC a n with
 |true=>
  simp only[zS];refine(c_rAlone a n w).step ?_;cases c:mO a n with
  |true=>simp only[zS];exact⟨by simp[eC,b,c],trivial⟩
  |false=>simp only[zS];exact⟨by simp[eC,b,c],trivial⟩
 |false=>simp only[zS];exact⟨by simp[eC,b],trivial⟩
theorem round_step{k n:Int}(a:k=1\/k=2\/k=4\/k=8)(b:0<n):(n%k=0->gW k n=n)/\(n%k≠0->gW k (n+1)=gW k n/\n<gW k n):=by
 unfold gW;rcases a with rfl|rfl|rfl|rfl<;>constructor<;>intro h<;>(try constructor)<;>omega
theorem l_rRound1{k:Int}(b:k=1\/k=2\/k=4\/k=8)(w:World):∀(d:Nat) (n:Int),0<n->n<=2000->gW k n-n<=d->P169_1 (bN n) (bN k) w λv g=>v=bN (gW k n)/\g=w
 |d,n,i,o,p=>by
  apply L169_1_ok;obtain⟨j,l⟩:=round_step b i;have c:n.tmod k=n%k:=Int.tmod_eq_emod_of_nonneg dB;by_cases a:n%k=0
  ·have e:(n%k !=0)=false:=by rw[a];rfl
   simp only[L169_1,km (show k≠0 by omega),c,zS,e];rw[j a];exact⟨rfl,trivial⟩
  ·have e:(n%k !=0)=true:=bne_iff_ne.2 a;obtain⟨f,m⟩:=l a;simp only[L169_1,km (show k≠0 by omega),c,zS,e,aj,ap (n:=n+1) dB dB];match d with
   |0=>omega
   |d+1=>
    have hb:gW k n<=2000\/2000<gW k n:=dB;have:=l_rRound1 b w d (n+1) dB (by
     rcases hb with hb|hb
     ·omega
     ·unfold gW at hb m;rcases b with rfl|rfl|rfl|rfl<;>omega) (by rw[f];omega)
    rw[f]at this;exact this
theorem c_rRound(cls n:Int)(w:World):aa prog 169 [bN cls,bN n] w λv a=>v=bN (bF cls n)/\a=w:=by
 apply F169_ok;simp only[F169];refine(oG n 1 1024 w).step ?_;by_cases b:1<=n/\n<=1024
 ·have rv:bF cls n=gW (stepOf cls) n:=by rw[bF,bV dB]
  simp only[cr b,zS];rw[rv];have fin:∀k,k=1\/k=2\/k=4\/k=8->stepOf cls=k->P169_1 (bN n) (bN k) w λv a=>v=bN (gW (stepOf cls) n)/\a=w:=λk i e=>by
   rw[e];exact l_rRound1 i w (gW k n-n).toNat n dB dB dB
  apply L169_0_ok;by_cases c:0<cls
  ·simp only[L169_0,zS,c,show(0:Int)<3 by decide,jB,aj,show IntKind.i64.wrap (2*1)=2 by decide,show IntKind.i64.wrap (0+1)=1 by decide];apply L169_0_ok;by_cases d:1<cls
   ·simp only[L169_0,zS,d,show(1:Int)<3 by decide,jB,aj,show IntKind.i64.wrap (2*2)=4 by decide,show IntKind.i64.wrap (1+1)=2 by decide];apply L169_0_ok;by_cases f:2<cls
    ·simp only[L169_0,zS,f,show(2:Int)<3 by decide,jB,aj,show IntKind.i64.wrap (2*4)=8 by decide,show IntKind.i64.wrap (2+1)=3 by decide];apply L169_0_ok;by_cases g:3<cls
     ·simp only[L169_0,zS,g,show¬(3:Int)<3 by decide];exact fin 8 dB (by rw[stepOf,bV dB,bV dB,bV dB])
     ·simp only[L169_0,zS,g];exact fin 8 dB (by rw[stepOf,bV dB,bV dB,bV dB])
    ·simp only[L169_0,zS,f];exact fin 4 dB (by rw[stepOf,bV dB,bV dB,bU dB])
   ·simp only[L169_0,zS,d];exact fin 2 dB (by rw[stepOf,bV dB,bU dB])
  ·simp only[L169_0,zS,c];exact fin 1 dB (by rw[stepOf,bU dB])
 ·simp only[bZ b,zS];exact⟨by rw[bF,bU dB],trivial⟩
theorem c_rLater(n:Int)(b:n<=4294967295)(w:World)(c:0<=n):aa prog 167 [bN n] w λv a=>v=bN (aY n)/\a=w:=by
 apply F167_ok;by_cases h:n>=4294967295
 ·simp only[F167,zS,h];exact⟨by rw[aY,bV dB],trivial⟩
 ·simp only[F167,zS,h,aj,ap (n:=n+1) dB dB];exact⟨by rw[aY,bU dB],trivial⟩
section
variable{w:World}{g:Nat}{x:RfV}{s gn r d h:Value}
theorem int_at{w:World}{A:Option Addr}{c:Nat}{L:List Int}(d:sZ .i64 w A L){i:Nat}{y:Int}(a:L[i]? =some y):
  ∃q:Addr,ai prog (Instr.indexAt 22 (.slice A L.length c) (bN (i:Int)))=some (.pointer (some q))/\gi prog 3 (.pointer (some q)) w=some (bN y):=by
 have e:=(bY.1 a).1;obtain⟨q,f,b⟩:=d.at (P:=prog) (c:=c) (j:= .i64) Tryz.underlying22 Tryz.underlying3 aE (i:=(i:Int)) dB dB;have g:L.getD i 0=y:=by rw[cu,a];rfl
 rw[cj,g]at b;exact⟨q,f,b⟩
def ixR(o:Option Nat):Int:=match o with|some i=>(i:Int)|none=> -1
def ti(L:List (fL×Bool))(n:iH):Option Nat:=ec (L.map (·.1)) n
theorem c_rFind(R:RfR w g x s gn r d h)(n:iH)(H:x.rgs.length<=1000000):aa prog 160 [bS g,bN n.1,bN n.2] w λv o=>v=bN (ixR (ti x.rgs n))/\o=w:=by
 apply F160_ok;simp only[F160];obtain⟨Fr,q⟩:=R.rT;have t:∀(d i:Nat),(∀ (j:Nat) (p:fL×Bool),j<i->x.rgs[j]? =some p->p.1.nm≠n)->i+d=x.rgs.length->
   P160_0 (bS g) (bN n.1) (bN n.2) (bN i) w λv o=>v=bN (ixR (ti x.rgs n))/\o=w:=by
  intro d;induction d with
  |zero=>
   intro i y E;apply L160_0_ok;obtain⟨A,c,_,_,e,_⟩:=aZ.rd q;have u:=R.rl;rw[e]at u;have:¬(i:Int)<x.rgs.length:=dB;simp only[L160_0,zS,aS,bz,u,qo,this];have:ti x.rgs n=none:=tM λj r a=>by
    rw[cN]at a;cases k:x.rgs[j]? with
    |none=>rw[k]at a;cases a
    |some p=>rw[k]at a;cases a;exact y j p (by have:=(bY.1 k).1;omega) k
   rw[this];exact⟨rfl,trivial⟩
  |succ d F=>
   intro i y E;apply L160_0_ok;have l:(i:Int)<x.rgs.length:=dB;obtain⟨p,m⟩:∃p,x.rgs[i]? =some p:=⟨_,bX dB⟩
   obtain⟨b,c,rfl,I,wv,ov,Q⟩:=rr_at q m;have z:=oP (b:=b) (p:=0) (n:=x.rgs.length) (c:=c) (j:= .i64) (i:=(i:Int)) dB dB;rw[cj,cM]at z;have next:p.1.nm≠n->P160_0 (bS g) (bN n.1) (bN n.2) (bN ((i:Int)+1)) w λv o=>v=bN (ixR (ti x.rgs n))/\o=w:=by
    intro C;have:=F (i+1) (λj r a f=>by
     rcases dh j i with h1|h1
     ·exact y j r h1 f
     ·have:j=i:=dB;subst this;rw[m]at f;cases f;exact C) dB
    rw[df i 1]at this;exact this
   by_cases h1:p.1.nm.1=n.1
   ·have D:(p.1.nm.1==n.1)=true:=by rw[h1];exact beq_self_eq_true _
    by_cases B:p.1.nm.2=n.2
    ·have G:(p.1.nm.2==n.2)=true:=by rw[B];exact beq_self_eq_true _
     simp only[L160_0,zS,aS,bz,R.rl,qo,l,z,fa_250_0,fa_250_1,ag,Q.c0,Q.c1,D,G];have:ti x.rgs n=some i:=findR_some (r:=p.1) (by rw[cN,m];rfl) (Prod.ext h1 B) λj r a f=>by
      rw[cN]at f;cases k:x.rgs[j]? with
      |none=>rw[k]at f;cases f
      |some p=>rw[k]at f;cases f;exact y j p a k
     rw[this];exact⟨rfl,trivial⟩
    ·simp only[L160_0,zS,aS,bz,R.rl,qo,l,z,fa_250_0,fa_250_1,ag,Q.c0,Q.c1,D,aW B,aj,ap (n:=(i:Int)+1) dB dB];exact next λe=>B (by rw[e])
   ·simp only[L160_0,zS,aS,bz,R.rl,qo,l,z,fa_250_0,ag,Q.c0,aW h1,aj,ap (n:=(i:Int)+1) dB dB];exact next λe=>h1 (by rw[e])
 exact t x.rgs.length 0 (λj p a=>dB) dB
def lA(L:List Int):Nat:=(L.filter λp=>decide (p=0)).length
theorem c_rSpare(R:RfR w g x s gn r d h)(D:x.state.length<=1000000):aa prog 166 [bS g] w λv a=>v=bN (lA x.state)/\a=w:=by
 apply F166_ok;simp only[F166];obtain⟨A,c,rfl,t⟩:=lf R.sT;have b:∀(d i:Nat),i+d=x.state.length->P166_0 (bS g) (bN (lA (x.state.take i))) (bN i) w λv a=>v=bN (lA x.state)/\a=w:=by
  intro d;induction d with
  |zero=>
   intro i u;apply L166_0_ok;have:¬(i:Int)<x.state.length:=dB;simp only[L166_0,zS,mz,aK,R.sl,aQ,this];rw[dA dB];exact⟨rfl,trivial⟩
  |succ d z=>
   intro i u;apply L166_0_ok;have e:(i:Int)<x.state.length:=dB;have f:i<x.state.length:=dB;obtain⟨q,m,o⟩:=int_at (c:=c) t (bX f);have j:lA (x.state.take (i+1))=lA (x.state.take i)+if x.state[i]=0 then 1 else 0:=by
    rw[List.take_add_one,bX f];simp only[lA,Option.toList_some,List.filter_append,cq];by_cases h:x.state[i]=0<;>simp[h]
   have B:lA (x.state.take i)<=i:=by
    have:=List.length_filter_le (λp:Int=>decide (p=0)) (x.state.take i);simp only[lA];simp at this ⊢;omega
   have one:∀k:Nat,k=lA (x.state.take (i+1))->P166_1 (bS g) (bN k) (bN i) w λv a=>v=bN (lA x.state)/\a=w:=by
    rintro k rfl;apply L166_1_ok;simp only[L166_1,zS,aj,ap (n:=(i:Int)+1) dB dB];have:=z (i+1) dB;rw[df i 1]at this;exact this
   generalize x.state[i]=y at*;by_cases l:y=0
   ·have C:(y==0)=true:=by rw[l];rfl
    simp only[L166_0,zS,mz,aK,R.sl,aQ,e,m,o,C,aj,ap (n:=(lA (x.state.take i):Int)+1) dB dB];have:=one (lA (x.state.take i)+1) (by rw[j,bU l]);rw[df _ 1]at this;exact this
   ·simp only[L166_0,zS,mz,aK,R.sl,aQ,e,m,o,aW l];exact one _ (by rw[j,bV l];rfl)
 exact b x.state.length 0 dB
end
section
variable{w:World}{g:Nat}{x:RfV}{s gn r d h:Value}
def rgA(p:fL×Bool)(a wv ov:Value):Array Value:= #[bN p.1.nm.1,bN p.1.nm.2,bN p.1.cls,bN p.1.off,.bool p.2,a,wv,ov]
theorem ld_rg{b o:Nat}{p:fL×Bool}{a wv ov:Value}(Q:RrR w b o p a wv ov):gi prog 250 (.pointer (some ⟨b,o,none⟩)) w=some (.agg (rgA p a wv ov)):=by
 rw[ld_250,mw 8 o [bN p.1.nm.1,bN p.1.nm.2,bN p.1.cls,bN p.1.off,.bool p.2,a,wv,ov] rfl λj u hj=>by
  have hj':=(bY.1 hj).1;simp at hj';have h7:j=0\/j=1\/j=2\/j=3\/j=4\/j=5\/j=6\/j=7:=dB;rcases h7 with rfl|rfl|rfl|rfl|rfl|rfl|rfl|rfl<;>cases hj
  ·exact Q.c0
  ·exact Q.c1
  ·exact Q.c2
  ·exact Q.c3
  ·exact Q.c4
  ·exact Q.c5
  ·exact Q.c6
  ·exact Q.c7]
 rfl
theorem c_rAt{p:fL×Bool}{A:Option Addr}{c:Nat}{wv ov:Value}(E:sZ .i64 w A p.1.chunks)(I:p.1.chunks.length<=1000000)(y:Int):aa prog 165 [.agg (rgA p (.slice A p.1.chunks.length c) wv ov),bN y] w λv k=>v=bN (nc p.1.chunks y)/\ad [] w k:=by
 apply F165_ok;have l:hp (w.alloc (.cells (rgA p (.slice A p.1.chunks.length c) wv ov) 250)) w.heap.size=some (.cells (rgA p (.slice A p.1.chunks.length c) wv ov) 250):=by rw[af,bU rfl]
 have m:ad [] w (w.alloc (.cells (rgA p (.slice A p.1.chunks.length c) wv ov) 250)):=(ad.refl _ _).alloc _;simp only[F165,ak,aq];generalize w.alloc (.cells (rgA p (.slice A p.1.chunks.length c) wv ov) 250)=w0 at*;generalize w.heap.size=F at*;have o:=E.ao m.below;have s:(rgA p (.slice A p.1.chunks.length c) wv ov)[0+5]? =some (.slice A p.1.chunks.length c):=rfl;have b:∀(d i:Nat),(∀ (j:Nat) (z:Int),j<i->p.1.chunks[j]? =some z->z≠y)->i+d=p.1.chunks.length->
   P165_0 (bN y) (bS F) (bN i) w0 λv k=>v=bN (nc p.1.chunks y)/\ad [] w k:=by
  intro d;induction d with
  |zero=>
   intro i g G;apply L165_0_ok;have:¬(i:Int)<p.1.chunks.length:=dB;simp only[L165_0,zS,mE,aK,l,s,aQ,this];rw[pE λj z hj=>g j z (by have:=(bY.1 hj).1;omega) hj];exact⟨rfl,m⟩
  |succ d H=>
   intro i g G;apply L165_0_ok;have f:(i:Int)<p.1.chunks.length:=dB;have t:i<p.1.chunks.length:=dB;obtain⟨z,x⟩:∃z,p.1.chunks[i]? =some z:=⟨_,bX t⟩
   obtain⟨q,C,D⟩:=int_at (c:=c) o x;by_cases a:z=y
   ·have e:(z==y)=true:=by rw[a];exact beq_self_eq_true _
    simp only[L165_0,zS,mE,aK,l,s,aQ,f,C,D,e];rw[sM x a g];exact⟨rfl,m⟩
   ·simp only[L165_0,zS,mE,aK,l,s,aQ,f,C,D,aW a,aj,ap (n:=(i:Int)+1) dB dB];have:=H (i+1) (λj u hj B=>by
     rcases dh j i with h1|h1
     ·exact g j u h1 B
     ·have:j=i:=dB;subst this;rw[x]at B;cases B;exact a) dB
    rw[df i 1]at this;exact this
 exact b p.1.chunks.length 0 (λj r hj=>dB) dB
def jg(x:RfV)(a:eN):Bool×Bool:=match ti x.rgs (dO a)with
 |none=>(false,false)
 |some i=>(decide (a.2.2.1=0/\a.2.2.2.1=0/\a.2.2.2.2=0),match x.rgs[i]? with|some p=>decide (a∈p.1.objs)|none=>false)
theorem findX_at{L:List (fL×Bool)}{n:iH}{i:Nat}(h:ti L n=some i):∃p,L[i]? =some p/\p.1.nm=n:=by
 obtain⟨r,a,c⟩:=nN h;rw[cN]at a;cases b:L[i]? with
 |none=>rw[b]at a;cases a
 |some p=>rw[b]at a;cases a;exact⟨p,rfl,c⟩
theorem c_rKnown(R:RfR w g x s gn r d h)(hl:x.rgs.length<=1000000)(ho:∀p∈x.rgs,p.1.objs.length<=1000000)(a:eN):aa prog 206 [bS g,.agg (ba a).toArray] w λv K=>v= .tuple #[.bool (jg x a).1,.bool (jg x a).2]/\ad [] w K:=by
 apply F206_ok;have u:hp (w.alloc (.cells (ba a).toArray 32)) w.heap.size=some (.cells (ba a).toArray 32):=by rw[af,bU rfl]
 have E:ad [] w (w.alloc (.cells (ba a).toArray 32)):=(ad.refl _ _).alloc _;simp only[F206,ak,aq];generalize w.alloc (.cells (ba a).toArray 32)=w0 at*;generalize w.heap.size=g3 at*;have B:=R.ao E;have e0:(ba a).toArray[0+0]? =some (bN a.1):=rfl;have e1:(ba a).toArray[0+1]? =some (bN a.2.1):=rfl;have F:(ba a).toArray[0+2]? =some (bN a.2.2.1):=rfl;have L:(ba a).toArray[0+3]? =some (bN a.2.2.2.1):=rfl;have e4:(ba a).toArray[0+4]? =some (bN a.2.2.2.2):=rfl;simp only[zS,bu,gm,ag,u,e0,e1];refine(c_rFind B (dO a) hl).step ?_;cases M:ti x.rgs (dO a)with
 |none=>
  have O:jg x a=(false,false):=by rw[jg,M]
  have C:(-1:Int)<0:=dB;simp only[ixR,zS,C];rw[O];exact⟨by first|rfl|trivial,E⟩
 |some i=>
  obtain⟨p,f,a1⟩:=findX_at M;have O:jg x a=(decide (a.2.2.1=0/\a.2.2.2.1=0/\a.2.2.2.2=0),decide (a∈p.1.objs)):=by rw[jg,M];simp only[f]
  have a2:=ho p (cD f);have l:¬(i:Int)<0:=dB;obtain⟨Fr,S⟩:=B.rT;obtain⟨b,c,rfl,cv,wv,ov,Q⟩:=rr_at S f;obtain⟨A,co,rfl,hR⟩:=objs_sh Q.oT;have hi:=(bY.1 f).1;have T:=oP (b:=b) (p:=0) (n:=x.rgs.length) (c:=c) (j:= .i64) (i:=(i:Int)) dB dB;rw[cj,cM]at T;have D:∀(t:Bool) (d k:Nat) (w1:World),ad [] w0 w1->(∀ (j:Nat) (y:eN),j<k->p.1.objs[j]? =some y->y≠a)->k+d=p.1.objs.length->
    P206_0 (bS g) (bS g3) (bN i) (.bool t) (bN k) w1 λv K=>v= .tuple #[.bool t,.bool (decide (a∈p.1.objs))]/\ad [] w K:=by
   intro t d;induction d with
   |zero=>
    intro k w1 o U hk;apply L206_0_ok;have:¬(k:Int)<p.1.objs.length:=dB;have V:=B.ao o;have W:=Q.ao o;simp only[L206_0,zS,aS,bz,V.rl,T,fa_250_7,ld_76,W.c7,len_76,this];refine⟨?_,E.trans o⟩;rw[bZ (λhm=>by
     obtain⟨j,hj⟩:=List.getElem?_of_mem hm;exact U j a (by have:=(bY.1 hj).1;omega) hj rfl)]
   |succ d ih=>
    intro k w1 o U hk;apply L206_0_ok;have X:(k:Int)<p.1.objs.length:=dB;have q:k<p.1.objs.length:=dB;have e:ad [] w0 w1.drew:=o.drew;have V:=B.ao o;have W:=Q.ao o;have a3:=B.ao e;have a4:=Q.ao e;obtain⟨y,G⟩:∃y,p.1.objs[k]? =some y:=⟨_,bX q⟩
    obtain⟨bb,oo,q1,_,q3,_⟩:=(hR.ao e.below).elem (P:=prog) (c:=co) (n:=p.1.objs.length) (i:=(k:Int)) (j:= .i64) Tryz.underlying76 lP dB (by rw[gL hnC_len];exact cy _) dB dB;have Y:p.1.objs[k]=y:=by rw[bX q]at G;exact Option.some.inj G
    rw[cj,jX hnC_len p.1.objs k q,Y]at q3;have ly:gi prog 32 (.pointer (some ⟨bb,oo,none⟩)) w1.drew=some (.agg (ba y).toArray):=by rw[ld_32,q3];rfl
    have lx:=iU (show hp w1.drew g3=_ from o.at u (by simp));have Z:be prog .eql 32 (.tmp 53) (.tmp 54) (.agg (ba y).toArray) (.agg (ba a).toArray)=some (.bool (decide (y=a))):=by
     rw[<- hn_beq];exact be_eql_32
    simp only[L206_0,zS,aS,bz,V.rl,T,fa_250_7,ld_76,W.c7,len_76,X,q1,ly,lx,Z];by_cases m:y=a
    ·simp only[cr m,zS];refine⟨?_,E.trans e⟩;rw[cr (by rw[<- m];exact cD G)]
    ·simp only[bZ m,zS,aj,ap (n:=(k:Int)+1) dB dB];have:=ih (k+1) w1.drew e (λj z hj hz=>by
      rcases dh j k with h1|h1
      ·exact U j z h1 hz
      ·have:j=k:=dB;subst this;rw[G]at hz;cases hz;exact m) dB
     rw[df k 1]at this;exact this
  have fin:=λt=>D t p.1.objs.length 0 w0 (ad.refl _ _) (λj y hj=>dB) dB;rw[O];by_cases H:a.2.2.1=0
  ·have k2:(a.2.2.1==0)=true:=by rw[H];rfl
   by_cases I:a.2.2.2.1=0
   ·have k3:(a.2.2.2.1==0)=true:=by rw[I];rfl
    by_cases J:a.2.2.2.2=0
    ·have k4:(a.2.2.2.2==0)=true:=by rw[J];rfl
     simp only[ixR,zS,l,eX,hC,iz,ag,u,F,L,e4,k2,k3,k4];rw[cr ⟨H,I,J⟩];exact fin true
    ·simp only[ixR,zS,l,eX,hC,iz,ag,u,F,L,e4,k2,k3,aW J];rw[bZ (show¬(a.2.2.1=0/\a.2.2.2.1=0/\a.2.2.2.2=0)from λh=>J h.2.2)];exact fin false
   ·simp only[ixR,zS,l,eX,hC,ag,u,F,L,k2,aW I];rw[bZ (show¬(a.2.2.1=0/\a.2.2.2.1=0/\a.2.2.2.2=0)from λh=>I h.2.1)];exact fin false
  ·simp only[ixR,zS,l,eX,ag,u,F,aW H];rw[bZ (show¬(a.2.2.1=0/\a.2.2.2.1=0/\a.2.2.2.2=0)from λh=>H h.1)];exact fin false
def goodX(x:RfV)(k:Int)(a:eN):Bool:=if gu k=1 then(jg x a).1 else if gu k=2 then(jg x a).2 else if gu k=3 then(jg x a).1||(jg x a).2 else true
theorem c_rGood(R:RfR w g x s gn r d h)(k:x.rgs.length<=1000000)(l:∀p∈x.rgs,p.1.objs.length<=1000000)(o:eu)(a:eN):aa prog 159 [bS g,.agg (cI o).toArray,.agg (ba a).toArray] w λv m=>v= .bool (goodX x o.1 a)/\ad [] w m:=by
 apply F159_ok;simp only[F159,ak,aq,ah];generalize e:(w.alloc (.cells (cI o).toArray 37)).alloc _=w1;have i:ad [] w w1:=by rw[<- e];exact((ad.refl _ _).alloc _).alloc _
 have n:hp w1 w.heap.size=some (.cells (cI o).toArray 37):=by rw[<- e,af,ah,bV dB,af,bU rfl]
 have t:hp w1 (w.heap.size+1)=some (.cells (ba a).toArray 32):=by rw[<- e,af,ah,bU rfl]
 clear e;simp only[iU t,ac];refine(c_rKnown (R.ao i) k l a).mono ?_;rintro _ w2 ⟨rfl,j⟩;have b:=i.trans j;have f:=j.at n (by simp);simp only[kG,kH,zS,am,ag,f,aJ];refine(c_Of o.1 w2).step ?_;have gx:goodX x o.1 a=if gu o.1=1 then(jg x a).1 else if gu o.1=2 then(jg x a).2 else if gu o.1=3 then(jg x a).1||(jg x a).2 else true:=rfl
 rw[gx];by_cases k1:gu o.1=1
 ·have q:(gu o.1==1)=true:=by rw[k1];rfl
  simp only[zS,q];rw[bU k1];exact⟨by first|rfl|trivial,b⟩
 by_cases k2:gu o.1=2
 ·have q:(gu o.1==2)=true:=by rw[k2];rfl
  simp only[zS,aW k1,q];rw[bV k1,bU k2];exact⟨by first|rfl|trivial,b⟩
 by_cases c:gu o.1=3
 ·have q:(gu o.1==3)=true:=by rw[c];rfl
  cases u:(jg x a).1 with
  |true=>
   simp only[zS,aW k1,aW k2,q];rw[bV k1,bV k2,bU c];exact⟨by first|rfl|trivial|simp,b⟩
  |false=>
   simp only[zS,aW k1,aW k2,q];rw[bV k1,bV k2,bU c];exact⟨by first|rfl|trivial|simp,b⟩
 ·simp only[zS,aW k1,aW k2,aW c];rw[bV k1,bV k2,bV c];exact⟨by first|rfl|trivial,b⟩
end
section
variable{w:World}{g:Nat}{x:RfV}{s gn r d h:Value}{F:Fp}
theorem hold_at{L:List (List iH)}{F:Fp}{y:Value}(d:qv L w F y){i:Nat}{l:List iH}(e:L[i]? =some l):∃b c v,y= .slice (some ⟨b,0,none⟩) L.length c/\an (hp w b) i=some v/\∃F,nO l w F v:=by
 obtain⟨b,c,v,f,g,_,_,_,a,j,_⟩:=aZ.cell d (rP L) (k:=i) (P:=nO l) (by rw[cN,e];rfl);exact⟨b,c,v,g,a,f,j⟩
theorem keys_sh{L:List iH}{v:Value}(a:∃F,nO L w F v):∃A c,v= .slice A L.length c/\fp w A (L.flatMap gD):=by
 obtain⟨F,a⟩:=a;obtain⟨b,_⟩:=gN a;obtain⟨A,c,e,r,_⟩:=aT b;exact⟨A,c,e,r⟩
theorem c_rHas(R:RfR w g x s gn r d h){n:Int}(U:0<=n){l:List iH}(E:x.holds[n.toNat]? =some l)(H:l.length<=1000000)(nm:iH):aa prog 161 [bS g,bN n,bN nm.1,bN nm.2] w λv o=>v= .bool (decide (nm∈l))/\o=w:=by
 apply F161_ok;simp only[F161];obtain⟨V,q⟩:=R.hT;obtain⟨b,c,v,rfl,F,I⟩:=hold_at q E;obtain⟨A,J,rfl,K⟩:=keys_sh I;have W:=(bY.1 E).1;have t:=ia_180 (b:=b) (p:=0) (n:=x.holds.length) (c:=c) (j:= .i64) (i:=n) dB dB;rw[cM,dr]at t;have k:∀(d i:Nat),(∀ (j:Nat) (y:iH),j<i->l[j]? =some y->y≠nm)->i+d=l.length->
   P161_0 (bS g) (bN n) (bN nm.1) (bN nm.2) (bN i) w λv o=>v= .bool (decide (nm∈l))/\o=w:=by
  intro d;induction d with
  |zero=>
   intro i e L;apply L161_0_ok;have:¬(i:Int)<l.length:=dB;simp only[L161_0,zS,nu,tC,R.hl,t,kW,F,jt,this];rw[bZ (λhm=>by
    obtain⟨j,hj⟩:=List.getElem?_of_mem hm;exact e j nm (by have:=(bY.1 hj).1;omega) hj rfl)]
   exact⟨by first|rfl|trivial,trivial⟩
  |succ d M=>
   intro i e L;apply L161_0_ok;have u:(i:Int)<l.length:=dB;have f:i<l.length:=dB;obtain⟨y,m⟩:∃y,l[i]? =some y:=⟨_,bX f⟩
   obtain⟨O,Q,S,_,G,_⟩:=K.elem (P:=prog) (c:=J) (n:=l.length) (i:=(i:Int)) (j:= .i64) Tryz.underlying161 sz_256 dB (by rw[gL m9];exact cy _) dB dB;have B:l[i]=y:=by rw[bX f]at m;exact Option.some.inj m
   rw[cj,jX m9 l i f,B]at G;have T:gi prog 256 (.pointer (some ⟨O,Q,none⟩)) w=some (.agg (gD y).toArray):=by rw[ld_256,G];rfl
   have C:be prog .eql 256 (.tmp 31) (.tmp 34) (.agg (gD y).toArray) (.agg #[bN nm.1,bN nm.2])=some (.bool (decide (y=nm))):=by
    rw[<- nm_beq];exact be_eql_256
   simp only[L161_0,zS,nu,tC,R.hl,t,kW,F,jt,u,S,T,tG,C];by_cases a:y=nm
   ·simp only[cr a,zS];rw[cr (by rw[<- a];exact cD m)];exact⟨by first|rfl|trivial,trivial⟩
   ·simp only[bZ a,zS,aj,ap (n:=(i:Int)+1) dB dB];have:=M (i+1) (λj z hj D=>by
     rcases dh j i with h1|h1
     ·exact e j z h1 D
     ·have:j=i:=dB;subst this;rw[m]at D;cases D;exact a) dB
    rw[df i 1]at this;exact this
 exact k l.length 0 (λj y hj=>dB) dB
theorem c_rFits(R:RfR w g x s gn r d h){i:Nat}{p:fL×Bool}(f:x.rgs[i]? =some p)(M:x.rgs.length<=1000000)(n:Int):aa prog 168 [bS g,bN i,bN n] w λv I=>v= .bool (dW p.1 x.c.2.2.1 (bF p.1.cls n))/\ad [] w I:=by
 apply F168_ok;simp only[F168];obtain⟨Fr,t⟩:=R.rT;obtain⟨b,c,rfl,O,wv,ov,Q⟩:=rr_at t f;obtain⟨A,l,rfl,J⟩:=lf Q.cT;have P:=(bY.1 f).1;have D:=oP (b:=b) (p:=0) (n:=x.rgs.length) (c:=c) (j:= .i64) (i:=(i:Int)) dB dB;rw[cj,cM]at D;obtain⟨S,u⟩:=Q.wT;obtain⟨T,y⟩:=Q.oT;have m:=((gV _).one u).2;have o:=((kC _).one y).2;simp only[zS,aS,bz,R.rl,D,ld_rg Q,al_250];rw[st_250 (by rfl) (by
  have oi:∀(k:IntKind) (x:Int),(Value.int k x).oneCell'=true:=λ_ _=>rfl;have ob:∀b,(Value.bool b).oneCell'=true:=λ_=>rfl;have os:∀a n c,(Value.slice a n c).oneCell'=true:=λ_ _ _=>rfl;show(List.all [_,_,_,_,_,_,wv,ov] _)=true;simp[m,o,oi,ob,os]) (by rw[af,bU rfl];rfl) (by rw[af,bU rfl];rfl),af,bU rfl,au]
 generalize e:put (w.alloc _) w.heap.size _ _=w1;have E:ad [] w w1:=by rw[<- e];exact((ad.refl _ _).alloc _).put (.inr (cy _)) _ _
 have z:hp w1 w.heap.size=some (.cells (rgA p (.slice A p.1.chunks.length l) wv ov) 250):=by rw[<- e];exact ar (by simp) _ _
 clear e;have K:=R.ao E;have B:ad [] w w1.drew:=E.drew;have L:(rgA p (.slice A p.1.chunks.length l) wv ov)[0+2]? =some (bN p.1.cls):=rfl;have F:(rgA p (.slice A p.1.chunks.length l) wv ov)[0+3]? =some (bN p.1.off):=rfl;have G:(rgA p (.slice A p.1.chunks.length l) wv ov)[0+5]? =some (.slice A p.1.chunks.length l):=rfl;have q:an (hp w1 g) (0+0+2)=some (bN x.c.2.2.1):=K.c 2 dB;by_cases H:(0:Int)<p.1.chunks.length
 ·have C:0<p.1.chunks.length:=dB;have rf:dW p.1 x.c.2.2.1 (bF p.1.cls n)=lQ x.c.2.2.1 p.1.off (bF p.1.cls n):=by rw[dW,cr C,Bool.true_and]
  simp only[zS,mE,mD,fa_250_2,fC,eW,aK,ag,z,L,F,G,aQ,H,q];rw[rf];repeat' (with_reducible apply And.intro)
  all_goals
   refine(c_rRound p.1.cls n w1.drew).step ?_;try simp only[zS,show hp w1.drew w.heap.size=_ from z,F,q]
   refine(c_rFits2 x.c.2.2.1 p.1.off (bF p.1.cls n) w1.drew).step ?_;try simp only[]
   exact⟨by first|rfl|trivial,B⟩
 ·have C:¬0<p.1.chunks.length:=dB;have rf:dW p.1 x.c.2.2.1 (bF p.1.cls n)=false:=by rw[dW,bZ C];rfl
  simp only[zS,mE,mD,fa_250_2,aK,z,G,aQ,H];rw[rf];first|exact⟨by first|rfl|trivial,B⟩|(repeat' (with_reducible apply And.intro))<;>first|exact B|rfl|trivial
def qw(L:List (fL×Bool))(a:Int):Bool:=L.any λp=>p.2&&decide (a∈p.1.chunks)
theorem c_rTaken(R:RfR w g x s gn r d h)(U:x.rgs.length<=1000000)(F:∀p∈x.rgs,p.1.chunks.length<=1000000)(y:Int):aa prog 170 [bS g,bN y] w λv u=>v= .bool (qw x.rgs y)/\ad [] w u:=by
 apply F170_ok;simp only[F170];have z:∀(d i:Nat) (w1:World),ad [] w w1->(∀ (j:Nat) (p:fL×Bool),j<i->x.rgs[j]? =some p->(p.2&&decide (y∈p.1.chunks))=false)->i+d=x.rgs.length->
   P170_0 (bS g) (bN y) (bN i) w1 λv u=>v= .bool (qw x.rgs y)/\ad [] w u:=by
  intro d;induction d with
  |zero=>
   intro i w1 o G M;apply L170_0_ok;obtain⟨Fr,q⟩:=(R.ao o).rT;obtain⟨A,c,_,_,e,_⟩:=aZ.rd q;have a:=(R.ao o).rl;rw[e]at a;have:¬(i:Int)<x.rgs.length:=dB;simp only[L170_0,zS,aS,bz,a,qo,this];refine⟨?_,o⟩;have:qw x.rgs y=false:=by
    rw[qw,List.any_eq_false];intro p f;obtain⟨j,C⟩:=List.getElem?_of_mem f;rw[G j p (by have:=(bY.1 C).1;omega) C];simp
   rw[this]
  |succ d O=>
   intro i w1 o G M;apply L170_0_ok;have B:(i:Int)<x.rgs.length:=dB;obtain⟨p,f⟩:∃p,x.rgs[i]? =some p:=⟨_,bX dB⟩
   have L:=R.ao o;obtain⟨Fr,q⟩:=L.rT;obtain⟨b,c,P,V,wv,ov,Q⟩:=rr_at q f;have a:=L.rl;rw[P]at a;obtain⟨A,S,rfl,H⟩:=lf Q.cT;have I:=oP (b:=b) (p:=0) (n:=x.rgs.length) (c:=c) (j:= .i64) (i:=(i:Int)) dB dB;rw[cj,cM]at I;have next:∀t,ad [] w t->(p.2&&decide (y∈p.1.chunks))=false->P170_0 (bS g) (bN y) (bN ((i:Int)+1)) t λv u=>v= .bool (qw x.rgs y)/\ad [] w u:=by
    intro t D T;have:=O (i+1) t D (λj r C J=>by
     rcases dh j i with h1|h1
     ·exact G j r h1 J
     ·have:j=i:=dB;subst this;rw[f]at J;cases J;exact T) dB
    rw[df i 1]at this;exact this
   cases l:p.2 with
   |false=>
    have K:an (hp w1 b) (i*8+4)=some (.bool false):=by rw[Q.c4,l]
    simp only[L170_0,zS,aS,bz,a,qo,B,I,jc,az,K,aj,ap (n:=(i:Int)+1) dB dB];exact next w1 o (by rw[l];rfl)
   |true=>
    have K:an (hp w1 b) (i*8+4)=some (.bool true):=by rw[Q.c4,l]
    simp only[L170_0,zS,aS,bz,a,qo,B,I,jc,az,K,ld_rg Q];refine(c_rAt (p:=p) (c:=S) H (F p (cD f)) y).mono ?_;rintro _ t ⟨rfl,D⟩;have m:decide (nc p.1.chunks y>=0)=decide (y∈p.1.chunks):=rM _ _;by_cases E:y∈p.1.chunks
    ·rw[cr E]at m;have k:=of_decide_eq_true m;simp only[zS,k];refine⟨?_,o.trans D⟩;have:qw x.rgs y=true:=by
      rw[qw,List.any_eq_true];exact⟨p,cD f,by rw[l,cr E];rfl⟩
     rw[this]
    ·rw[bZ E]at m;have k:=of_decide_eq_false m;simp only[zS,k,aj,ap (n:=(i:Int)+1) dB dB];exact next t (o.trans D) (by rw[bZ E];simp)
 exact z x.rgs.length 0 w (ad.refl _ _) (λj r C=>dB) dB
theorem jx.oQ{k:Nat}{L:List Int}(I:jx w g x F)(p:(rfT x)[k]? =some (fA L)){i:Nat}{y:Int}(q:L[i]? =some y):
  ∃b c,an (hp w g) k=some (.slice (some ⟨b,0,none⟩) L.length c)/\b≠g/\F b/\an (hp w b) i=some (bN y)/\
   ∀z,pY (hp w b) (i+1)=true/\∃f,eR 182 g ((rfT x).set k (fA (L.set i z))) (put w b ((dL (hp w b)).setIfInBounds i (bN z)) (dM (hp w b))) f/\aO F f w (put w b ((dL (hp w b)).setIfInBounds i (bN z)) (dM (hp w b))):=by
 have r:((ints L).map kY)[i]? =some (kY (bN y)):=by rw[ints,List.map_map,cN,q];rfl
 obtain⟨b,c,v,u,s,j,l,_,_,_,m,n,_,a⟩:=eR.row I (gp x) p (gF (ints_int L)) r;refine⟨b,c,s,j,l,by rw[m,n.1],λz=>?_⟩;obtain⟨ok,_,_,_,f,o,t⟩:=a w cL (kY (bN z)) (bN z) (aO.none n.2 w) (fe _ _) ⟨rfl,λ_ h=>h⟩;have d:((ints L).map kY).set i (kY (bN z))=(ints (L.set i z)).map kY:=by rw[<- List.map_set,flat_set1]
 rw[d]at o;have e:fA (L.set i z)=aZ 3 1 L.length ((ints (L.set i z)).map kY):=by rw[fA,cE]
 rw[e];exact⟨ok,f,o,t⟩
end
section
variable{w:World}{g:Nat}{x:RfV}{F:Fp}
def backX(x:RfV)(n:Int):Bool×RfV:=if 0<=n/\n<x.state.length/\x.state.getD n.toNat 0=2 then(true,{x with state:=x.state.set n.toNat 0})else(false,x)
theorem c_rBack(I:jx w g x F)(D:(x.state.length:Int)=x.c.2.2.2.1)(n:Int):aa prog 82 [bS g,bN n] w λv z=>v= .bool (backX x n).1/\∃A,jx z g (backX x n).2 A/\aO F A w z:=by
 apply F82_ok;obtain⟨s,gn,r,d,h,R⟩:=I.rd;have a:an (hp w g) (0+0+3)=some (bN x.state.length):=by rw[D];exact R.c 3 dB
 by_cases t:n<0
 ·simp only[F82,zS,t];rw[backX,bV dB];exact⟨by first|rfl|trivial,F,I,aO.refl _ _⟩
 by_cases u:(x.state.length:Int)<=n
 ·simp only[F82,zS,t,fC,gj,ag,a,u];rw[backX,bV dB];exact⟨by first|rfl|trivial,F,I,aO.refl _ _⟩
 have e:n.toNat<x.state.length:=dB;obtain⟨b,c,E,G,H,f,l⟩:=I.oQ (k:=7) (L:=x.state) rfl (i:=n.toNat) (bX e);obtain⟨ok,J,K,M⟩:=l 0;have B:x.state.getD n.toNat 0=x.state[n.toNat]:=by rw[cu,bX e];rfl
 have y:=ia_22 (b:=b) (p:=0) (n:=x.state.length) (c:=c) (j:= .i64) (i:=n) dB dB;rw[cM,dr]at y;have m:an (hp w g) (0+7)=some (.slice (some ⟨b,0,none⟩) x.state.length c):=E;by_cases o:x.state[n.toNat]=2
 ·have C:(x.state[n.toNat]!=2)=false:=by rw[o];rfl
  have q:an (hp w b) n.toNat=some (bN 2):=by rw[f,o]
  have O:((2:Int)!=2)=false:=rfl;simp only[F82,zS,t,fC,mz,gj,ag,a,u,aK,m,y,q];rw[gB rfl rfl ok,backX,bU ⟨dB,dB,by rw[B,o]⟩];exact⟨by first|rfl|trivial,J,K,M⟩
 ·have C:(x.state[n.toNat]!=2)=true:=bne_iff_ne.2 o;simp only[F82,zS,t,fC,mz,gj,ag,a,u,aK,m,y,f,C];rw[backX,bV (λh=>o (by rw[<- B];exact h.2.2))];exact⟨by first|rfl|trivial,F,I,aO.refl _ _⟩
theorem ints_row{n:Nat}(c:n<=maxLen){b:Nat}(hb:hp w b=some (.cells (ints (List.replicate n 0)).toArray 3)):fA (List.replicate n 0) w (λk=>k=b) (.slice (some ⟨b,0,none⟩) n n):=by
 have h:w.ownsRow 0 3 1 (.slice (some ⟨b,0,none⟩) n n) n (ints (List.replicate n 0)):=
  ⟨by simp[ints],.inr ⟨b,n,_,rfl,cQ _,hb,cy _,c,by simp[ints],by simp[ints]⟩⟩
 have a:=pC h;have e:(λk=>(Value.slice (some ⟨b,0,none⟩) n n).ownBlock=some k)=(λk=>k=b):=by
  funext k;simp[Value.ownBlock,eq_comm]
 rw[e]at a;rw[fA,dz];exact a
theorem holds_row{n:Nat}(e:n<=maxLen){b:Nat}(hb:hp w b=some (.cells (List.replicate n (Value.slice none 0 0)).toArray 161)):qv (List.replicate n []) w (λk=>k=b) (.slice (some ⟨b,0,none⟩) n n):=by
 have h:w.ownsRow 0 161 1 (.slice (some ⟨b,0,none⟩) n n) n (List.replicate n (Value.slice none 0 0)):=
  ⟨by simp,.inr ⟨b,n,_,rfl,cQ _,hb,cy _,e,by simp,by simp⟩⟩
 refine⟨_,λ_=>cL,by rw[dz];exact h,⟨by simp,λk P v c d=>?_,λ_ _ _ _ _ b hb _=>hb⟩,λb ⟨_,_,hb⟩=>hb.elim,λk=>⟨λa=> .inl (by rw[a];rfl),λa=>?_⟩⟩
 ·rw[cN,List.getElem?_replicate]at c;rw[List.getElem?_replicate]at d;split at c
  ·rename_i a;rw[bU a]at d;cases c;cases d;exact aZ.nil
  ·cases c
 ·rcases a with a|⟨_,_,a⟩
  ·simp[Value.ownBlock]at a;exact a.symm
  ·exact a.elim
theorem rf_parts{x:RfV}{n gv rv o p:Value}{a b Fr Fd d:Fp}(t:fA x.state w a n)(u:fA x.gen w b gv)(y:tN x.rgs w Fr rv)(z:fA x.depth w Fd o)(A:qv x.holds w d p)
  (e:∀i j:Nat,i<5->j<5->i≠j->FDis ((λk:Nat=>if k=0 then a else if k=1 then b else if k=2 then Fr else if k=3 then Fd else d) i) ((λk:Nat=>if k=0 then a else if k=1 then b else if k=2 then Fr else if k=3 then Fd else d) j)):
  fX w (rfT x) (dN x.c++ [.bool x.loose,n,gv,rv,o,p]) (λk=>if k<7 then cL else(λk:Nat=>if k=0 then a else if k=1 then b else if k=2 then Fr else if k=3 then Fd else d) (k-7)):=by
 refine⟨rfl,λk P v q f=>?_,λj k B g C=>?_⟩
 ·have g:=(bY.1 q).1;have l:(rfT x).length=12:=rfl;rw[l]at g;have m:k=0\/k=1\/k=2\/k=3\/k=4\/k=5\/k=6\/k=7\/k=8\/k=9\/k=10\/k=11:=dB;rcases m with rfl|rfl|rfl|rfl|rfl|rfl|rfl|rfl|rfl|rfl|rfl|rfl<;>cases q<;>cases f
  ·exact⟨rfl,λ_ h=>h⟩
  ·exact⟨rfl,λ_ h=>h⟩
  ·exact⟨rfl,λ_ h=>h⟩
  ·exact⟨rfl,λ_ h=>h⟩
  ·exact⟨rfl,λ_ h=>h⟩
  ·exact⟨rfl,λ_ h=>h⟩
  ·exact⟨rfl,λ_ h=>h⟩
  ·exact t
  ·exact u
  ·exact y
  ·exact z
  ·exact A
 ·have D:(rfT x).length=12:=rfl;rw[D]at B g;by_cases r:j<7
  ·simp only[bU r];exact λ_ h _=>h
  ·by_cases s:k<7
   ·simp only[bU s];exact λ_ _ h=>h
   ·simp only[bV r,bV s];exact e (j-7) (k-7) dB dB dB
theorem c_rNew(c:cx)(loose:Bool)(W:jw c=true)(w:World):aa prog 60 [.agg (dN c).toArray,.bool loose] w λv S=>∃g F,v=bS g/\ad [] w S/\jx S g (aL (qR c loose)) F/\∀k,F k->w.heap.size<=k:=by
 apply F60_ok;have T:hp (w.alloc (.cells (dN c).toArray 25)) w.heap.size=some (.cells (dN c).toArray 25):=by rw[af,bU rfl]
 have X:ad [] w (w.alloc (.cells (dN c).toArray 25)):=(ad.refl _ _).alloc _;simp only[F60,ak,aq];generalize w.alloc (.cells (dN c).toArray 25)=w0 at*;obtain⟨h1,h2,h3,h4⟩:=may_cf W;have Y:(dN c).toArray[0+3]? =some (bN ((c.2.2.2.1.toNat:Nat):Int)):=by rw[cf_3];congr;omega
 have Z:(dN c).toArray[0+0]? =some (bN ((c.1.toNat:Nat):Int)):=by rw[cf_0];congr;omega
 have nm:aL (qR c loose)=⟨c,loose,List.replicate c.2.2.2.1.toNat 0,List.replicate c.2.2.2.1.toNat 0, [],List.replicate c.1.toNat 0,List.replicate c.1.toNat []⟩:=by simp[aL,qR]
 have l1:c.2.2.2.1.toNat<=4096:=dB;have l2:c.1.toNat<=64:=dB;generalize c.2.2.2.1.toNat=l at*;generalize c.1.toNat=d at*;obtain⟨ii,A,B,u,C⟩:=oC;obtain⟨ik,E,G,D,H⟩:=inf_161;have I:∀n,madeCells (Value.int .i64 0).cells (n*ii.size)=(ints (List.replicate n 0)).toArray:=λn=>by
  apply Array.toList_inj.1;rw[u,dr];have:=toList_madeCells_one (Value.int .i64 0) n;rw[ints,List.map_replicate];exact this
 have J:madeCells (Value.slice none 0 0).cells (d*ik.size)=(List.replicate d (Value.slice none 0 0)).toArray:=by
  apply Array.toList_inj.1;rw[D,dr];exact toList_madeCells_one (Value.slice none 0 0) d
 have p:l<=maxLen/\d<=maxLen:=by unfold maxLen;omega
 have fin:∀(m:World) (q r s t:Nat),ad [] w m->hp m q=some (.cells (ints (List.replicate l 0)).toArray 3)->hp m r=some (.cells (ints (List.replicate l 0)).toArray 3)->hp m s=some (.cells (ints (List.replicate d 0)).toArray 3)->hp m t=some (.cells (List.replicate d (Value.slice none 0 0)).toArray 161)->
   w.heap.size<=q/\w.heap.size<=r/\w.heap.size<=s/\w.heap.size<=t/\q≠r/\q≠s/\q≠t/\r≠s/\r≠t/\s≠t->
   ∃g F,Value.pointer (some ⟨m.heap.size,0,none⟩)=bS g/\ad [] w (m.alloc (.cells (dN c++ [Value.bool loose,Value.slice (some ⟨q,0,none⟩) l l,Value.slice (some ⟨r,0,none⟩) l l,Value.slice none 0 0,Value.slice (some ⟨s,0,none⟩) d d,Value.slice (some ⟨t,0,none⟩) d d]).toArray 182))/\
    jx (m.alloc (.cells (dN c++ [Value.bool loose,Value.slice (some ⟨q,0,none⟩) l l,Value.slice (some ⟨r,0,none⟩) l l,Value.slice none 0 0,Value.slice (some ⟨s,0,none⟩) d d,Value.slice (some ⟨t,0,none⟩) d d]).toArray 182)) g (aL (qR c loose)) F/\∀k,F k->w.heap.size<=k:=by
  intro m q r s t U hs hg hd hh ⟨n1,n2,n3,n4,d1,d2,d3,d4,d5,d6⟩;rw[nm];have L:=rf_parts (w:=m) (x:=⟨c,loose,List.replicate l 0,List.replicate l 0, [],List.replicate d 0,List.replicate d []⟩) (ints_row p.1 hs) (ints_row p.1 hg) (Fr:=cL) (rv:= .slice none 0 0) aZ.nil (ints_row p.2 hd) (holds_row p.2 hh) (by
   intro i j hi hj a1 b y z;have M:i=0\/i=1\/i=2\/i=3\/i=4:=dB;have O:j=0\/j=1\/j=2\/j=3\/j=4:=dB;rcases M with rfl|rfl|rfl|rfl|rfl<;>rcases O with rfl|rfl|rfl|rfl|rfl<;>first
    |omega
    |(simp only[if_true,if_false,Nat.reduceEqDiff,cL]at y z;omega)
    |(simp[cL]at y z;omega)
    |(simp[cL]at y z))
  refine⟨m.heap.size,_,rfl,U.alloc _,eR.new L (gp _),λk o=>?_⟩;have sz:=U.size;rcases o with o|⟨j,_,o⟩
  ·omega
  ·split at o
   ·exact o.elim
   ·repeat' split at o
    ·have:k=q:=o;omega
    ·have:k=r:=o;omega
    ·exact o.elim
    ·have:k=s:=o;omega
    ·have:k=t:=o;omega
 have Q:∀a b e f,ai prog (Instr.build 182 #[(0,.agg (dN c).toArray),(1,.bool loose),(2,.slice (some ⟨a,0,none⟩) l l),(3,.slice (some ⟨b,0,none⟩) l l),(5,.slice (some ⟨e,0,none⟩) d d),(6,.slice (some ⟨f,0,none⟩) d d)])=some (.agg (dN c++ [Value.bool loose,Value.slice (some ⟨a,0,none⟩) l l,Value.slice (some ⟨b,0,none⟩) l l,Value.slice none 0 0,Value.slice (some ⟨e,0,none⟩) d d,Value.slice (some ⟨f,0,none⟩) d d]).toArray):=λa b e f=>tF;have R:hp w0.drew w.heap.size=some (.cells (dN c).toArray 25):=T;have V:=X.drew;have sz:w.heap.size<=w0.drew.heap.size:=V.size;have ea:∀{P:Program} {w:World} {K:Value->World->Prop},True:=fun{P w K}=>trivial;simp only[zS,gj,fq,ag,fM R,T,Y,Z,jm (P:=prog) (kl:= .i64) (kc:= .i64) (n:=l) Tryz.underlying22 A B (by rw[u];omega) (by rw[C];omega) dB,jm (P:=prog) (kl:= .i64) (kc:= .i64) (n:=d) Tryz.underlying22 A B (by rw[u];omega) (by rw[C];omega) dB,
  jm (P:=prog) (kl:= .i64) (kc:= .i64) (n:=d) Tryz.underlying180 E G (by rw[D];omega) (by rw[H];omega) dB,I,J,Q,aq]
 repeat' (with_reducible apply And.intro)
 all_goals
  refine fin _ _ _ _ _ ((((V.alloc _).alloc _).alloc _).alloc _) ?_ ?_ ?_ ?_ ⟨?_,?_,?_,?_,?_,?_,?_,?_,?_,?_⟩;all_goals first
   |(simp only[af,ah,if_true];done)
   |((try simp only[af,ah,if_true]);(repeat' split)<;>first|rfl|omega)
   |((try simp only[ah]);omega)
end
section
variable{W w:World}{g:Nat}{m:dI}{F:Fp}{K:Nat}
theorem bdh_:ai prog (Instr.build 32 #[])=some (.agg (ba kJ).toArray):=aU λw=>run_build w 32 _ _ dE
theorem bdh_01(x y:Int):ai prog (Instr.build 32 #[(0,bN x),(1,bN y)])=some (.agg (ba (x,y,0,0,0)).toArray):=aU λw=>run_build w 32 _ _ dE
theorem bdr_:ai prog (Instr.build 35 #[])=some (.agg (gw lR).toArray):=aU λw=>run_build w 35 _ _ dE
theorem tj(x:Int):ai prog (Instr.build 35 #[(0,bN x)])=some (.agg (gw (bn x)).toArray):=aU λw=>run_build w 35 _ _ dE
theorem bdr_1(h:eN):ai prog (Instr.build 35 #[(1,.agg (ba h).toArray)])=some (.agg (gw (0,h,0,0)).toArray):=aU λw=>run_build w 35 _ _ dE
theorem tk{r:eN}{b:Nat}{c:Array Value}{e:TypeId}(hb:hp w b=some (.cells c e))(a:c.size=5){L:World->Prop}:ck prog (Instr.storeAt 32 (bS b) (.agg (ba r).toArray)) w L=L (put w b (ba r).toArray e):=by
 rw[st_32 rfl rfl (by rw[hb,bq];exact cr dB) (by rw[hb];exact a),hb];rfl
end
section
variable{W w:World}{c:cx}{loose:Bool}
end
abbrev HV:=Int×Int×Int×Int×Int
abbrev ResV:=Int×HV×Int×Int
structure di where
 wk:Int
 ix:Int
 op:eu
 iv:Int
 pt:Int
 bk:Int
 rs:Int
 re:ResV
def jS(s:di):List Value:= [bN s.wk,bN s.ix,bN s.op.1,bN s.op.2.1,bN s.op.2.2.1,bN s.op.2.2.2.1,bR s.op.2.2.2.2.1,bR s.op.2.2.2.2.2,
 bN s.iv,bN s.pt,bN s.bk,bN s.rs,bN s.re.1,bN s.re.2.1.1,bN s.re.2.1.2.1,bN s.re.2.1.2.2.1,bN s.re.2.1.2.2.2.1,bN s.re.2.1.2.2.2.2,bN s.re.2.2.1,bR s.re.2.2.2]
theorem nf(s:di):(jS s).length=20:=rfl
def iW(s:di):Array Value:=(jS s).toArray
theorem sp0(s:di):(iW s)[0]? =some (bN s.wk):=rfl
theorem sp1(s:di):(iW s)[1]? =some (bN s.ix):=rfl
theorem sp8(s:di):(iW s)[8]? =some (bN s.iv):=rfl
theorem sp9(s:di):(iW s)[9]? =some (bN s.pt):=rfl
theorem oe(s:di):(iW s)[10]? =some (bN s.bk):=rfl
theorem ng(s:di):(iW s)[11]? =some (bN s.rs):=rfl
theorem pr_max3{P:Program}{d:Array TypeId}{t:TypeId}{k:IntKind}{a b c:Int}:ai P (Builtin.max_ d t #[.int k a,.int k b,.int k c])=some (.int k (if c>(if b>a then b else a)then c else(if b>a then b else a))):=aU λw=>by simp[Builtin.max_,Builtin.max2]
def ahead(a b:di):Bool:=decide (0<=a.rs)&&decide (a.rs<b.iv)
theorem c_Ahead(a b:di)(w:World):aa prog 15 [.agg (iW a),.agg (iW b)] w λv c=>v= .bool (ahead a b)/\ad [] w c:=by
 apply F15_ok;have d:∀x y:Array Value,ad [] w ((w.alloc (.cells x 39)).alloc (.cells y 39)):=λx y=>((ad.refl _ _).alloc _).alloc _;by_cases h:0<=a.rs<;>simp[F15,ak,ng,sp8,h,ahead,d]
theorem c_AheadRef(a b:di)(w:World):aa prog 86 [.agg (iW a),.agg (iW b)] w λv c=>v= .bool (ahead a b)/\ad [] w c:=by
 apply F86_ok;have d:∀x y:Array Value,ad [] w ((w.alloc (.cells x 39)).alloc (.cells y 39)):=λx y=>((ad.refl _ _).alloc _).alloc _;by_cases h:0<=a.rs<;>simp[F86,ak,ng,sp8,h,ahead,d]
def right(s:di):Bool:=decide (0<=s.wk/\s.wk<64/\0<=s.iv/\(s.pt= -1\/s.iv<=s.pt)/\(s.bk= -1\/(s.pt≠ -1/\s.pt<s.bk))/\(s.rs= -1\/(s.pt≠ -1/\s.pt<=s.rs/\s.bk<=s.rs)))
theorem c_right(s:di)(w:World):aa prog 62 [.agg (iW s)] w λv m=>v= .bool (right s)/\ad [] w m:=by
 apply F62_ok;have a:∀x:Array Value,ad [] w (w.alloc (.cells x 39)):=λx=>(ad.refl _ _).alloc _;have no:∀(h:¬(0<=s.wk/\s.wk<64/\0<=s.iv/\(s.pt= -1\/s.iv<=s.pt)/\(s.bk= -1\/(s.pt≠ -1/\s.pt<s.bk))/\(s.rs= -1\/(s.pt≠ -1/\s.pt<=s.rs/\s.bk<=s.rs)))),right s=false:=λh=>bZ h;have yes:∀(h:(0<=s.wk/\s.wk<64/\0<=s.iv/\(s.pt= -1\/s.iv<=s.pt)/\(s.bk= -1\/(s.pt≠ -1/\s.pt<s.bk))/\(s.rs= -1\/(s.pt≠ -1/\s.pt<=s.rs/\s.bk<=s.rs)))),right s=true:=λh=>cr h;by_cases b:s.wk<0
 ·simp[F62,ak,sp0,b,a,no dB]
 by_cases c:64<=s.wk
 ·simp[F62,ak,sp0,b,c,a,no dB]
 by_cases d:s.iv<0
 ·simp[F62,ak,sp0,sp8,b,c,d,a,no dB]
 by_cases k:s.pt= -1
 ·by_cases e:s.bk= -1
  ·by_cases f:s.rs= -1
   ·simp[F62,ak,sp0,sp8,sp9,oe,ng,b,c,d,k,e,f,a,yes dB]
   ·simp[F62,ak,sp0,sp8,sp9,oe,ng,b,c,d,k,e,aW f,a,no dB]
  ·simp[F62,ak,sp0,sp8,sp9,oe,ng,b,c,d,k,bne_iff_ne.2 e,a,no dB]
 have i:(s.pt != -1)=true:=bne_iff_ne.2 k;have g:(s.pt== -1)=false:=aW k;by_cases j:s.pt<s.iv
 ·simp[F62,ak,sp0,sp8,sp9,oe,ng,b,c,d,i,j,a,no dB]
 have fin:(s.bk= -1\/s.pt<s.bk)->∃v,True:=λ_=>⟨0,trivial⟩
 by_cases e:s.bk= -1
 ·by_cases f:s.rs= -1
  ·simp[F62,ak,sp0,sp8,sp9,oe,ng,b,c,d,i,j,e,f,a,yes dB]
  ·simp[F62,ak,sp0,sp8,sp9,oe,ng,b,c,d,i,j,e,aW f,pr_max3,a];rw[right,decide_eq_decide];omega
 ·by_cases l:s.bk<=s.pt
  ·simp[F62,ak,sp0,sp8,sp9,oe,ng,b,c,d,i,g,j,bne_iff_ne.2 e,l,a,no dB]
  ·by_cases f:s.rs= -1
   ·simp[F62,ak,sp0,sp8,sp9,oe,ng,b,c,d,i,g,j,bne_iff_ne.2 e,l,f,a,yes dB]
   ·simp[F62,ak,sp0,sp8,sp9,oe,ng,b,c,d,i,g,j,bne_iff_ne.2 e,l,aW f,pr_max3,a];rw[right,decide_eq_decide];omega
theorem c_one(s:di)(w:World):aa prog 84 [.agg (iW s)] w λv o=>v= .bool (right s)/\ad [] w o:=by
 apply F84_ok;have a:∀x:Array Value,ad [] w (w.alloc (.cells x 39)):=λx=>(ad.refl _ _).alloc _;have no:∀(h:¬(0<=s.wk/\s.wk<64/\0<=s.iv/\(s.pt= -1\/s.iv<=s.pt)/\(s.bk= -1\/(s.pt≠ -1/\s.pt<s.bk))/\(s.rs= -1\/(s.pt≠ -1/\s.pt<=s.rs/\s.bk<=s.rs)))),right s=false:=λh=>bZ h;have yes:∀(h:(0<=s.wk/\s.wk<64/\0<=s.iv/\(s.pt= -1\/s.iv<=s.pt)/\(s.bk= -1\/(s.pt≠ -1/\s.pt<s.bk))/\(s.rs= -1\/(s.pt≠ -1/\s.pt<=s.rs/\s.bk<=s.rs)))),right s=true:=λh=>cr h;by_cases b:s.wk<0
 ·simp[F84,ak,sp0,b,a,no dB]
 by_cases c:64<=s.wk
 ·simp[F84,ak,sp0,b,c,a,no dB]
 by_cases d:s.iv<0
 ·simp[F84,ak,sp0,sp8,b,c,d,a,no dB]
 by_cases l:s.pt= -1
 ·by_cases e:s.bk= -1
  ·by_cases g:s.rs= -1
   ·simp[F84,ak,sp0,sp8,sp9,oe,ng,b,c,d,l,e,g,a,yes dB]
   ·simp[F84,ak,sp0,sp8,sp9,oe,ng,b,c,d,l,e,aW g,a,no dB]
  ·simp[F84,ak,sp0,sp8,sp9,oe,ng,b,c,d,l,bne_iff_ne.2 e,a,no dB]
 have j:(s.pt != -1)=true:=bne_iff_ne.2 l;by_cases k:s.pt<s.iv
 ·simp[F84,ak,sp0,sp8,sp9,oe,ng,b,c,d,j,k,a,no dB]
 have m:¬s.pt<0:=dB;have i:0<=s.pt:=dB;by_cases e:s.bk= -1
 ·by_cases g:s.rs= -1
  ·simp[F84,ak,sp0,sp8,sp9,oe,ng,b,c,d,j,k,e,g,a,yes dB]
  ·by_cases f:s.pt<=s.rs
   ·simp[F84,ak,sp0,sp8,sp9,oe,ng,b,c,d,j,i,k,e,aW g,f,a];rw[right,decide_eq_decide];omega
   ·simp[F84,ak,sp0,sp8,sp9,oe,ng,b,c,d,j,i,k,e,aW g,f,a,no dB]
 ·by_cases n:s.bk<=s.pt
  ·simp[F84,ak,sp0,sp8,sp9,oe,ng,b,c,d,j,m,k,bne_iff_ne.2 e,n,a,no dB]
  ·by_cases g:s.rs= -1
   ·simp[F84,ak,sp0,sp8,sp9,oe,ng,b,c,d,j,m,k,bne_iff_ne.2 e,n,g,a,yes dB]
   ·by_cases f:s.pt<=s.rs
    ·simp[F84,ak,sp0,sp8,sp9,oe,ng,b,c,d,j,m,i,k,bne_iff_ne.2 e,n,aW g,f,a];rw[right,decide_eq_decide];omega
    ·simp[F84,ak,sp0,sp8,sp9,oe,ng,b,c,d,j,m,i,k,bne_iff_ne.2 e,n,aW g,f,a,no dB]
theorem l_Index{xs:List Int}(r:xs.length<=4611686018427387904){A:Option Addr}{c:Nat}{w:World}(g:sZ .i64 w A xs)(x:Int):∀(d i:Nat),i+d=xs.length->
  P72_0 (.slice A xs.length c) (bN x) (bN xs.length) (bN i) w λv l=>(∃ k:Int,v=bN k/\(decide (0<=k)=(xs.drop i).contains x))/\l=w:=by
 intro d;induction d with
 |zero=>
  intro i m;apply L72_0_ok;have:¬((i:Int)<xs.length):=dB;simp only[L72_0,ac,aG,this,decide_false,bf];exact⟨⟨-1,rfl,by rw[dk dB];rfl⟩,trivial⟩
 |succ d o=>
  intro i m;apply L72_0_ok;have a:(i:Int)<xs.length:=dB;have b:i<xs.length:=dB;obtain⟨q,f,e⟩:=g.at (P:=prog) (c:=c) (j:= .i64) Tryz.underlying22 Tryz.underlying3 aE (i:=(i:Int)) dB a;have p:xs.drop i=xs.getD i 0::xs.drop (i+1):=by
   rw[List.drop_eq_getElem_cons b,cu,bX b];rfl
  rw[cj]at e;simp only[L72_0,ac,aG,a,decide_true,bE,f,e,be_eql,p,List.contains_cons];by_cases h:x=xs.getD i 0
  ·have hb:(x==xs.getD i 0)=true:=by rw[h];simp
   simp only[hb,bE,Bool.true_or];exact⟨⟨i,rfl,by simp⟩,trivial⟩
  ·have hb:(x==xs.getD i 0)=false:=aW h;simp only[hb,bf,aj,ac,ap (n:=(i:Int)+1) dB dB,Bool.false_or];have h:=o (i+1) dB;rw[df i 1]at h;exact h
theorem c_Contains{xs:List Int}(d:xs.length<=4611686018427387904){v:Value}{w:World}(b:SlI w v xs)(x:Int):aa prog 109 [v,bN x] w λv a=>v= .bool (xs.contains x)/\a=w:=by
 obtain⟨A,c,rfl,b⟩:=b;apply F109_ok;have e:aa prog 72 [.slice A xs.length c,bN x] w λv a=>(∃ k:Int,v=bN k/\(decide (0<=k)=xs.contains x))/\a=w:=by
  apply F72_ok;simp only[F72,aQ,ac];have:=l_Index (c:=c) d b x xs.length 0 dB;simp only[List.drop_zero]at this;exact this
 refine e.mono ?_;rintro v a ⟨⟨k,rfl,f⟩,rfl⟩;simp only[mM,ac,f];exact⟨trivial,trivial⟩
def lM(s:di):List Int:= [s.iv,s.pt,s.bk,s.rs]
def shrd(a b:di):Bool:=(lM b).any λx=>(x != -1)&&(lM a).contains x
theorem slI_lit{w:World}{g:Nat}{a b c d:Int}{e:TypeId}(h:hp w g=some (.cells #[bN a,bN b,bN c,bN d] e)):SlI w (.slice (some ⟨g,0,none⟩) 4 4) [a,b,c,d]:=by
 refine⟨some ⟨g,0,none⟩,4,rfl,λi f=>⟨_,rfl,?_⟩⟩;rw[eL,fT,h,aN];have f:i<4:=f;rcases(by omega:i=0\/i=1\/i=2\/i=3)with rfl|rfl|rfl|rfl<;>rfl
theorem l_shared{a:List Int}(A:a.length=4){b:List Int}(hb:b.length=4){w:World}{o e:Value}(p:SlI w o a)(k:SlI w e b):∀(d i:Nat),i+d=4->
  P63_0 o e (bN 4) (bN i) w λv r=>v= .bool ((b.drop i).any λx=>(x != -1)&&a.contains x)/\r=w:=by
 intro d;induction d with
 |zero=>
  intro i s;apply L63_0_ok;have:¬((i:Int)<4):=dB;simp only[L63_0,ac,aG,this,decide_false,bf];exact⟨by rw[dk dB];rfl,trivial⟩
 |succ d t=>
  intro i s;apply L63_0_ok;have l:(i:Int)<4:=dB;have f:i<b.length:=dB;obtain⟨B,c,rfl,u⟩:=k;obtain⟨q,m,g⟩:=u.at (P:=prog) (c:=c) (j:= .i64) Tryz.underlying22 Tryz.underlying3 aE (i:=(i:Int)) dB dB;have y:b.drop i=b.getD i 0::b.drop (i+1):=by
   rw[List.drop_eq_getElem_cons f,cu,bX f];rfl
  rw[cj]at g;simp only[L63_0,ac,aG,l,decide_true,bE,m,g,be_neq,y,List.any_cons];have next:=t (i+1) dB
  rw[df i 1]at next
  by_cases h:b.getD i 0= -1
  ·have hb:(b.getD i 0 != -1)=false:=by rw[h];rfl
   simp only[hb,gE_ft,bv,bf,ac,aj,ap (n:=(i:Int)+1) dB dB,Bool.false_and,Bool.false_or];exact next
  ·have hb:(b.getD i 0 != -1)=true:=bne_iff_ne.2 h;simp only[hb,gE_true,m5];refine(c_Contains dB p _).step ?_;cases z:a.contains (b.getD i 0)
   ·simp only[bH,ac,bf,aj,ap (n:=(i:Int)+1) dB dB,Bool.and_false,Bool.false_or];exact next
   ·simp only[bH,ac,bE,Bool.and_true,Bool.true_or];exact⟨trivial,trivial⟩
theorem c_shared(a b:di)(w:World):aa prog 63 [.agg (iW a),.agg (iW b)] w λv c=>v= .bool (shrd a b)/\ad [] w c:=by
 apply F63_ok;simp[F63,ak,sp8,sp9,oe,ng];have d:ad [] w ((((w.alloc (.cells (iW a) 39)).alloc (.cells (iW b) 39)).alloc (.cells #[bN a.iv,bN a.pt,bN a.bk,bN a.rs] 3)).alloc (.cells #[bN b.iv,bN b.pt,bN b.bk,bN b.rs] 3)):=((((ad.refl _ _).alloc _).alloc _).alloc _).alloc _;have:=l_shared (a:=lM a) (b:=lM b) rfl rfl (slI_lit (g:=w.heap.size+1+1) (e:=3) (by simp)) (slI_lit (w:=((((w.alloc (.cells (iW a) 39)).alloc (.cells (iW b) 39)).alloc (.cells #[bN a.iv,bN a.pt,bN a.bk,bN a.rs] 3)).alloc (.cells #[bN b.iv,bN b.pt,bN b.bk,bN b.rs] 3))) (g:=w.heap.size+1+1+1) (e:=3) (by simp)) 4 0 dB;refine Part.mono this ?_;rintro v c ⟨rfl,rfl⟩;exact⟨rfl,d⟩
theorem ad.putN{S:List Nat}{a w:World}{b:Nat}{c:Array Value}{e:TypeId}(h:ad S a w)(hb:a.heap.size<=b):ad S a (put w b c e):=h.put (.inr hb) _ _
theorem callTo{P:Program}{f:FuncId}{args:List Value}{w w0:World}{a:Value}(h:aa P f args w λv b=>v=a/\b=w0){K:Value->World->Prop}(c:K a w0):aa P f args w K:=
 h.mono λv b ⟨d,e⟩=>by subst d;subst e;exact c
theorem pr_indexArr{P:Program}{t e:TypeId}{z n b o:Nat}{j:IntKind}{i:Int}(h:P.underlying t=some (.array n e))(a:(P.info? e).map (·.size)=some z)(c:0<=i)(d:i<n):
  ai P (Instr.indexAt t (.pointer (some ⟨b,o,none⟩)) (.int j i))=some (.pointer (some ⟨b,o+i.toNat*z,none⟩)):=aU λw=>by
 obtain⟨f,g,k⟩:=dc.1 a;have l:0<=i/\i<(n:Int):=⟨c,d⟩
 simp[Instr.indexAt,asIntOf,run_underlying h,Instr.sureAddr,l,sizeOf,typeInfo,g,k,eL]
def stC(s:di):Array Value:= #[bN s.iv,bN s.pt,bN s.bk,bN s.rs]
theorem c_steps(s:di)(w:World):aa prog 131 [.agg (iW s)] w λv a=>v= .agg (stC s)/\a=put ((w.alloc (.cells (iW s) 39)).alloc (.cells #[bN 0,bN 0,bN 0,bN 0] 201)) (w.heap.size+1) (stC s) 201:=by
 apply F131_ok;simp[F131,ak,sp8,sp9,oe,ng,st_201,ld_201,stC]
theorem stC_get(s:di)(i:Nat)(h:i<4):(stC s)[i]? =some (bN ((lM s).getD i 0)):=by
 rcases(by omega:i=0\/i=1\/i=2\/i=3)with rfl|rfl|rfl|rfl<;>rfl
def shar(a b:di):Bool:=(lM a).any λx=>(lM b).any λy=>decide (0<=x)&&(x==y)
theorem drop_getD(b:List Int)(i:Nat)(h:i<b.length):b.drop i=b.getD i 0::b.drop (i+1):=by
 rw[List.drop_eq_getElem_cons h,cu,bX h];rfl
theorem l_share2{a b:di}{g k:Nat}(w0:World){i:Nat}(t:i<4)(w:World)(f:hp w g=some (.cells (stC a) 201))(l:hp w k=some (.cells (stC b) 201))(r:Bool)
  (next:∀c:World,hp c g=some (.cells (stC a) 201)->hp c k=some (.cells (stC b) 201)->ad [] w c->P85_1 (bS g) (bS k) (bN ((i:Int)+1)) c λv c=>v= .bool r/\ad [] w c):
  ∀(d j:Nat) (c:World),hp c g=some (.cells (stC a) 201)->hp c k=some (.cells (stC b) 201)->ad [] w c->j+d=4->
   P85_2 (bS g) (bS k) (bN i) (bN j) c λv c=>v= .bool (((lM b).drop j).any (λy=>decide (0<=(lM a).getD i 0)&&((lM a).getD i 0==y))||r)/\ad [] w c:=by
 intro d;induction d with
 |zero=>
  intro j c f l q D;apply L85_2_ok;have:¬((j:Int)<4):=dB;simp only[L85_2,ac,aG,this,decide_false,bf,aj,ap (n:=(i:Int)+1) dB dB];have e:(lM b).drop j= []:=dk (by simp[lM];omega);rw[e,List.any_nil,Bool.false_or];exact next c f l q
 |succ d E=>
  intro j c f l q D;apply L85_2_ok;have u:(j:Int)<4:=dB;have F:j<4:=dB;have z:=pr_indexArr (P:=prog) (b:=g) (o:=0) (j:= .i64) (i:=(i:Int)) Tryz.underlying201 aE dB dB;have B:=pr_indexArr (P:=prog) (b:=k) (o:=0) (j:= .i64) (i:=(j:Int)) Tryz.underlying201 aE dB dB;have G:0+(i:Int).toNat*1=i:=dB;have H:0+(j:Int).toNat*1=j:=dB;rw[G]at z;rw[H]at B;have m:=E (j+1) c.drew f l q.drew dB;rw[df j 1]at m;have I:=drop_getD (lM b) j (by simp[lM];omega);generalize J:(lM a).getD i 0=x at*;generalize K:(lM b).getD j 0=y at*;have A:=stC_get a i t;have C:=stC_get b j F;rw[J]at A;rw[K]at C;simp only[L85_2,ac,aG,u,decide_true,bE,z,ag,hp_drew,f,aN,A,mM,I,List.any_cons];by_cases s:0<=x
  ·simp only[s,decide_true,ox,m5,z,B,ag,hp_drew,f,l,aN,A,C,ac,be_eql,bH,Bool.true_and];by_cases p:x=y
   ·have:(x==y)=true:=by rw[p];simp
    simp only[this,bE,Bool.true_or];exact⟨trivial,q.drew⟩
   ·simp only[aW p,bf,aj,ac,ap (n:=(j:Int)+1) dB dB,Bool.false_or];simp only[s,decide_true,Bool.true_and]at m⊢;exact m
  ·simp only[s,decide_false,gd_ft,gv_ft,ac,bv,bf,aj,ap (n:=(j:Int)+1) dB dB,Bool.false_and,Bool.false_or];simp only[s,decide_false,Bool.false_and]at m⊢;exact m
theorem l_share1{a b:di}{g k:Nat}:∀(d i:Nat) (w:World),hp w g=some (.cells (stC a) 201)->hp w k=some (.cells (stC b) 201)->i+d=4->
  P85_1 (bS g) (bS k) (bN i) w λv c=>v= .bool (((lM a).drop i).any λx=>(lM b).any λy=>decide (0<=x)&&(x==y))/\ad [] w c:=by
 intro d;induction d with
 |zero=>
  intro i w e f o;apply L85_1_ok;have:¬((i:Int)<4):=dB;simp only[L85_1,ac,aG,this,decide_false,bf];exact⟨by rw[dk (by simp[lM];omega)];rfl,ad.refl _ _⟩
 |succ d p=>
  intro i w e f o;apply L85_1_ok;have j:(i:Int)<4:=dB;simp only[L85_1,ac,aG,j,decide_true,bE];have:=l_share2 (a:=a) (b:=b) w (i:=i) dB w e f (((lM a).drop (i+1)).any λx=>(lM b).any λy=>decide (0<=x)&&(x==y)) (λc l m q=>by
   have h:=p (i+1) c l m dB;rw[df i 1]at h;refine Part.mono h ?_;rintro v r ⟨s,n⟩;exact⟨s,q.trans n⟩) 4 0 w e f (ad.refl _ _) dB
  rw[drop_getD (lM a) i (by simp[lM];omega),List.any_cons];exact this
theorem c_share(a b:di)(w:World):aa prog 85 [.agg (iW a),.agg (iW b)] w λv d=>v= .bool (shar a b)/\ad [] w d:=by
 have fin:∀(g k:Nat) (d:World),hp d g=some (.cells (stC a) 201)->hp d k=some (.cells (stC b) 201)->ad [] w d->P85_0 (bS g) (bS k) d λv d=>v= .bool (shar a b)/\ad [] w d:=by
  intro g k d o p q;apply L85_0_ok;refine Part.mono (l_share1 (a:=a) (b:=b) 4 0 d o p dB) ?_;rintro v r ⟨t,l⟩;exact⟨t,q.trans l⟩
 have j:∀(s:di) (e:TypeId) (f:Nat×Nat),ldL (some (.cells (iW s) e f)) 0 20=some (jS s):=λs e f=>ldL_some (c:=iW s) (cy _);have i:∀s:di,(jS s).toArray=iW s:=λs=>rfl;have m:∀s:di,(stC s).size=4:=λs=>rfl;have n:∀s:di,(stC s).toList.all (·.oneCell')=true:=λs=>rfl;apply F85_ok;simp only[F85,ak,aq,ah];repeat' apply And.intro
 all_goals
  simp[ld_39,j,i];refine callTo (c_steps _ _) ?_;try simp[j,i]
  refine callTo (c_steps _ _) ?_;try simp[st_201,m,n]
  refine fin _ _ _ (by simp) (by simp) ?_;repeat' first
   |with_reducible apply ad.alloc
   |with_reducible apply ad.putN
   |with_reducible apply ad.drew
   |with_reducible exact ad.refl _ _
   |omega
theorem stps_right{s:di}(h:right s=true):∀x∈lM s,x= -1\/0<=x:=by
 have h:=of_decide_eq_true h;intro x a;simp[lM]at a;omega
theorem shr_eq{a b:di}(h:right b=true):shrd a b=shar b a:=by
 have hb:=stps_right h;unfold shrd shar;rw[Bool.eq_iff_iff];simp only[List.any_eq_true,cZ,bne_iff_ne,ne_eq,List.contains_iff_mem,decide_eq_true_eq,beq_iff_eq];constructor
 ·rintro⟨x,c,d,e⟩;exact⟨x,c,x,e,by rcases hb x c with h|h;exact absurd h d;exact h,rfl⟩
 ·rintro⟨x,c,y,f,d,rfl⟩;exact⟨x,c,dB,f⟩
def jA(a s:di):Bool:=(decide (a.wk=s.wk)&&(!(ahead a s)||decide (s.ix<=a.ix)))||shrd a s
def okAt(l:List di)(i:Nat):Prop:=∀s,l[i]? =some s->right s=true/\(∀ p,0<i->l[i-1]? =some p->p.iv<s.iv)/\∀k a,k<i->l[k]? =some a->jA a s=false
def mayL(l:List di):Prop:=∀i,i<l.length->okAt l i
def SlP(w:World)(v:Value)(l:List di):Prop:=∃A c,v= .slice A l.length c/\fp w A (l.flatMap jS)
noncomputable def mI(l:List di):Bool:= @decide (mayL l) (Classical.propDecidable _)
theorem mayB_f{l:List di}{i:Nat}(a:i<l.length)(h:¬okAt l i):mI l=false:=by
 unfold mI;exact @decide_eq_false _ (Classical.propDecidable _) λb=>h (b i a)
theorem mayB_t{l:List di}(h:mayL l):mI l=true:=by
 unfold mI;exact @decide_eq_true _ (Classical.propDecidable _) h
theorem ldC_keep{w a:World}(c:ad [] w a){b o:Nat}{v:Value}(h:an (hp w b) o=some v):an (hp a b) o=some v:=by
 cases hb:hp w b with
 |none=>rw[hb]at h;cases h
 |some x=>rw[c.at hb (by simp),<-hb];exact h
theorem ldL_keep{w d:World}(e:ad [] w d){b:Nat}:∀(n o:Nat) (vs:List Value),ldL (hp w b) o n=some vs->ldL (hp d b) o n=some vs
 |0,o,vs,h=>h
 |n+1,o,vs,h=>by
  rw[ldL]at h⊢;cases a:an (hp w b) o with
  |none=>rw[a]at h;cases h
  |some v=>
   cases c:ldL (hp w b) (o+1) n with
   |none=>rw[a,c]at h;cases h
   |some us=>
    rw[a,c]at h;rw[ldC_keep e a,ldL_keep e n (o+1) us c];exact h
structure At(w:World)(b o:Nat)(s:di):Prop where
 l:ldL (hp w b) o 20=some (jS s)
 f:∀k,k<20->an (hp w b) (o+k)=(iW s)[k]?
theorem At.ao{w c:World}{b o:Nat}{s:di}(h:At w b o s)(d:ad [] w c):At c b o s:=by
 refine⟨ldL_keep d _ _ _ h.l,λk g=>?_⟩;have a:k<(jS s).length:=g;have e:(iW s)[k]? =some ((jS s)[k]'a):=by simp[iW]
 have:=h.f k g;rw[e]at this⊢;exact ldC_keep d this
theorem At.ld{w:World}{b o:Nat}{s:di}(h:At w b o s):gi prog 39 (.pointer (some ⟨b,o,none⟩)) w=some (.agg (iW s)):=by
 rw[ld_39,h.l];rfl
theorem At.f0{w:World}{b o:Nat}{s:di}(h:At w b o s):an (hp w b) (o+0)=some (bN s.wk):=(h.f 0 dB).trans (sp0 s)
theorem At.f1{w:World}{b o:Nat}{s:di}(h:At w b o s):an (hp w b) (o+1)=some (bN s.ix):=(h.f 1 dB).trans (sp1 s)
theorem At.f8{w:World}{b o:Nat}{s:di}(h:At w b o s):an (hp w b) (o+8)=some (bN s.iv):=(h.f 8 dB).trans (sp8 s)
theorem rQ{w:World}{b:Nat}{s:di}{e:TypeId}(h:hp w b=some (.cells (iW s) e)):At w b 0 s:=
 ⟨by rw[h];exact ldL_some (c:=iW s) (cy _),λk a=>by rw[h,aN,cM]⟩
theorem iQ{w:World}{A:Option Addr}{l:List di}{c i:Nat}{j:IntKind}(h:fp w A (l.flatMap jS))(a:i<l.length):
  ∃b o,ai prog (Instr.indexAt 26 (.slice A l.length c) (.int j i))=some (.pointer (some ⟨b,o,none⟩))/\At w b o l[i]:=by
 obtain⟨b,o,f,g,d,_⟩:=h.elem (P:=prog) (c:=c) (n:=l.length) (i:=(i:Int)) (j:=j) Tryz.underlying26 sz_39 dB (by rw[gL nf];exact cy _) dB dB;rw[cj,jX nf l i a]at d;refine⟨b,o,f,d,λk e=>?_⟩;rw[g k e,cj,flat_get nf l i a k e];simp[iW]
theorem l_May1{l:List di}(hl:l.length<=1000000){A:Option Addr}{c i g:Nat}(hi:i<l.length){W:World}(r:Bool)(U:(∃ k a,k<i/\l[k]? =some a/\jA a l[i]=true)->r=false)
  (next:(∀ k a,k<i->l[k]? =some a->jA a l[i]=false)->∀w,fp w A (l.flatMap jS)->ad [] W w->P33_0 (.slice A l.length c) (.slice A l.length c) (bN l.length) (bN ((i:Int)+1)) w λv e=>v= .bool r/\ad [] W e):
  ∀(d k:Nat) (w:World),fp w A (l.flatMap jS)->hp w g=some (.cells (iW l[i]) 39)->ad [] W w->(∀ t a,t<k->l[t]? =some a->jA a l[i]=false)->k+d=i->
   P33_1 (.slice A l.length c) (bS g) (.slice A l.length c) (bN l.length) (bN i) (bN i) (bN k) w λv e=>v= .bool r/\ad [] W e:=by
 intro d;induction d with
 |zero=>
  intro k w J M B x V;apply L33_1_ok;have:¬((k:Int)<i):=dB;simp only[L33_1,ac,aG,this,decide_false,bf,aj,ap (n:=(i:Int)+1) dB dB];exact next (λt a O C=>x t a dB C) w J B
 |succ d X=>
  intro k w J M B x V;apply L33_1_ok;have P:(k:Int)<i:=dB;have y:k<l.length:=dB;obtain⟨b,o,E,K⟩:=iQ (c:=c) (j:= .i64) (i:=k) J y;have q:=rQ M;have Y:jA l[k] l[i]=false->∀e,ad [] w e->P33_1 (.slice A l.length c) (bS g) (.slice A l.length c) (bN l.length) (bN i) (bN i) (bN ((k:Int)+1)) e λv e=>v= .bool r/\ad [] W e:=by
   intro m e D;have h:=X (k+1) e (J.ao D.below) (D.at M (by simp)) (B.trans D) (λt a O C=>by
    rcases dh t k with h|h
    ·exact x t a h C
    ·have:t=k:=dB;subst this;rw[bX y]at C;rw[<- Option.some.inj C];exact m) dB
   rw[df k 1]at h;exact h
  have p:jA l[k] l[i]=true->r=false:=λm=>U ⟨k,l[k],dB,bX y,m⟩;generalize hs:l[i]=s at*;generalize C:l[k]=a at*;have u:∀e,ad [] w e->(∀ b:Bool,shrd a s=b->jA a s=b)->aa prog 63 [.agg (iW a),.agg (iW s)] e λQ w=>mV (qV (.bool false) (some (Go.Value.bool true)) (some Q)) λR=>cnd R ((Go.Value.bool false)= .bool r/\ad [] W w)
    (mV (bp prog .add 3 (bN k) (Go.Value.int Go.IntKind.i64 1)) λS=>P33_1 (.slice A l.length c) (bS g) (.slice A l.length c) (bN l.length) (bN i) (bN i) S w λv e=>v= .bool r/\ad [] W e):=by
   intro e D m;refine(c_shared a s e).mono ?_;rintro v w2 ⟨rfl,F⟩;cases G:shrd a s with
   |true=>
    simp only[bv,ac,bE];exact⟨by rw[p (m true G)],B.trans (D.trans F)⟩
   |false=>
    simp only[bv,ac,bf,aj,ap (n:=(k:Int)+1) dB dB];exact Y (m false G) w2 (D.trans F)
  simp only[L33_1,ac,aG,P,decide_true,bE,E,jq,ag,hp_drew,K.f0,q.f0,be_eql];by_cases H:a.wk=s.wk
  ·have Z:(a.wk==s.wk)=true:=by rw[H];simp
   simp only[Z,ox,m5,E,(K.ao (ad.refl [] w).drew).ld,(q.ao (ad.refl [] w).drew).ld,ac,gE_true];refine(c_Ahead a s w.drew).mono ?_;rintro v w1 ⟨rfl,f⟩;have f:ad [] w w1:=(ad.refl _ _).drew.trans f;have T:=K.ao f;have z:=q.ao f;cases I:ahead a s with
   |false=>
    simp only[kn,Bool.not_false,gd_tf,gv_tf,ac,bH,gE_tf,bE];exact⟨by rw[p (by simp[jA,H,I])],B.trans f⟩
   |true=>
    by_cases L:s.ix<=a.ix
    ·simp only[kn,Bool.not_true,gJ,gI,jY,ag,z.f1,E,T.f1,qj,L,decide_true,ac,bH,bv,gd_tf,gv_tf,gE_tf,bE];exact⟨by rw[p (by simp[jA,H,L])],B.trans f⟩
    ·simp only[kn,Bool.not_true,gJ,gI,jY,ag,z.f1,E,T.f1,qj,L,decide_false,ac,bH,bv,T.ld,z.ld,gE_false];exact u w1 f λb hb=>by simp[jA,I,L,hb]
  ·simp only[aW H,gd_ft,gv_ft,gE_ft,gd_uf,gv_uf,ac,bv,gJ,gI,E,(K.ao (ad.refl [] w).drew).ld,(q.ao (ad.refl [] w).drew).ld,gE_false];exact u w.drew (ad.refl _ _).drew λb hb=>by simp[jA,H,hb]
abbrev dP:=Int×Int×Bool
def gR(e:dP):List Value:= [bN e.1,bN e.2.1,.bool e.2.2]
theorem iE(e:dP):(gR e).length=3:=rfl
def nP(i:Nat)(s:di):List dP:=(if 0<=s.pt then [(s.pt,(i:Int),false)]else [])++(if 0<=s.bk then [(s.bk,(i:Int),true)]else [])
def jy:Nat->List di->List dP
 |_, []=> []
 |i,s::r=>nP i s++jy (i+1) r
def nQ(l:List di):List dP:=jy 0 l
theorem evsOf_len(i:Nat)(s:di):(nP i s).length<=2:=by
 unfold nP;split<;>split<;>simp
theorem oH:∀(l:List di) (i:Nat),(jy i l).length<=2*l.length
 | [],_=>cQ _
 |s::r,i=>by
  have a:=evsOf_len i s;have b:=oH r (i+1);simp only[jy,cq,du];omega
theorem rawFrom_app:∀(l:List di) (i:Nat) (s:di),jy i (l++ [s])=jy i l++nP (i+l.length) s
 | [],i,s=>by simp[jy]
 |a::l,i,s=>by
  rw[List.cons_append,jy,jy,rawFrom_app l (i+1) s,cJ,du];rw[show i+1+l.length=i+(l.length+1)by omega]
def pK(e:dP):List dP->List dP
 | []=> [e]
 |y::r=>if y.1<=e.1 then y::pK e r else e::y::r
def sortR(l:List dP):List dP:=l.foldl (λa e=>pK e a) []
def cmpV(a b:dP):Int:=if a.1≠b.1 then(if a.1<b.1 then -1 else 1)else if a.2.2=b.2.2 then 0 else if b.2.2=true then -1 else 1
def oR(e:dP):List dP->List dP
 | []=> [e]
 |y::r=>if cmpV e y<0 then y::oR e r else e::y::r
def oI(l:List dP):List dP:=(l.foldl (λa e=>oR e a) []).reverse
def sO(l:List dP):Prop:=l.Pairwise λa b=>a.1<b.1
def Dsc(l:List dP):Prop:=l.Pairwise λa b=>b.1<a.1
theorem nj(e:dP):∀l:List dP,(pK e l).Perm (e::l)
 | []=> .refl _
 |y::r=>by
  unfold pK;split
  ·exact((nj e r).cons y).trans (.swap _ _ _)
  ·exact .refl _
theorem pM(e:dP):∀l:List dP,(oR e l).Perm (e::l)
 | []=> .refl _
 |y::r=>by
  unfold oR;split
  ·exact((pM e r).cons y).trans (.swap _ _ _)
  ·exact .refl _
theorem qx{a b:dP}(h:a.1≠b.1):cmpV a b<0<->a.1<b.1:=by
 unfold cmpV;rw[bU h];split
 ·simp[*]
 ·simp[*]
theorem putV_asc{e:dP}:∀{l:List dP},sO l->(∀ y∈l,y.1≠e.1)->sO (pK e l)
 | [],_,_=>List.pairwise_singleton _ _
 |y::r,h,a=>by
  obtain⟨b,c⟩:=List.pairwise_cons.1 h;have d:=a y (by simp);unfold pK;split
  ·refine List.pairwise_cons.2 ⟨λz hz=>?_,putV_asc c λz hz=>a z (List.mem_cons_of_mem _ hz)⟩;rcases cV.1 ((nj e r).mem_iff.1 hz)with rfl|hz
   ·omega
   ·exact b z hz
  ·refine List.pairwise_cons.2 ⟨λz hz=>?_,h⟩;rcases cV.1 hz with rfl|hz
   ·omega
   ·have:=b z hz;omega
theorem insR_dsc{e:dP}:∀{l:List dP},Dsc l->(∀ y∈l,y.1≠e.1)->Dsc (oR e l)
 | [],_,_=>List.pairwise_singleton _ _
 |y::r,h,d=>by
  obtain⟨f,i⟩:=List.pairwise_cons.1 h;have j:=d y (by simp);have g:=qx (a:=e) (b:=y) (λh=>j h.symm);unfold oR;split
  ·rename_i c;have:=g.1 c;refine List.pairwise_cons.2 ⟨λz hz=>?_,insR_dsc i λz hz=>d z (List.mem_cons_of_mem _ hz)⟩;rcases cV.1 ((pM e r).mem_iff.1 hz)with rfl|hz
   ·exact this
   ·exact f z hz
  ·rename_i c;have:¬e.1<y.1:=λh=>c (g.2 h);refine List.pairwise_cons.2 ⟨λz hz=>?_,h⟩;rcases cV.1 hz with rfl|hz
   ·omega
   ·have:=f z hz;omega
theorem tO:∀{l k:List dP},sO l->sO k->l.Perm k->l=k
 | [],k,_,_,h=>by rw[List.nil_perm.1 h]
 |x::l, [],_,_,h=>by have:=h.length_eq;simp at this
 |x::l,y::k,a,b,h=>by
  obtain⟨c,d⟩:=List.pairwise_cons.1 a;obtain⟨f,g⟩:=List.pairwise_cons.1 b;have e:x=y:=by
   have hx:x∈y::k:=h.mem_iff.1 (by simp);have hy:y∈x::l:=h.mem_iff.2 (by simp);rcases cV.1 hx with e|hx
   ·exact e
   ·rcases cV.1 hy with e|hy
    ·exact e.symm
    ·have:=c y hy;have:=f x hx;omega
  subst e;rw[tO d g (List.Perm.cons_inv h)]
def Dst(l:List dP):Prop:=l.Pairwise λa b=>a.1≠b.1
theorem sortR_fold:∀(l c:List dP),sO c->Dst l->(∀ a∈c,∀b∈l,a.1≠b.1)->sO (l.foldl (λc e=>pK e c) c)/\(l.foldl (λc e=>pK e c) c).Perm (c++l)
 | [],c,h,_,_=>⟨h,by simp⟩
 |e::l,c,h,f,d=>by
  obtain⟨g,i⟩:=List.pairwise_cons.1 f;have hp:=nj e c;obtain⟨j,k⟩:=sortR_fold l (pK e c) (putV_asc h λy m=>d y m e (by simp)) i (λa ha b hb=>by
   rcases cV.1 (hp.mem_iff.1 ha)with rfl|ha
   ·exact g b hb
   ·exact d a ha b (List.mem_cons_of_mem _ hb))
  refine⟨j,k.trans ?_⟩;exact(hp.append_right l).trans (by simpa using(List.perm_middle (a:=e) (l₁:=c) (l₂:=l)).symm)
theorem tP:∀(l c:List dP),Dsc c->Dst l->(∀ a∈c,∀b∈l,a.1≠b.1)->Dsc (l.foldl (λc e=>oR e c) c)/\(l.foldl (λc e=>oR e c) c).Perm (c++l)
 | [],c,h,_,_=>⟨h,by simp⟩
 |e::l,c,h,f,d=>by
  obtain⟨g,i⟩:=List.pairwise_cons.1 f;have hp:=pM e c;obtain⟨j,k⟩:=tP l (oR e c) (insR_dsc h λy m=>d y m e (by simp)) i (λa ha b hb=>by
   rcases cV.1 (hp.mem_iff.1 ha)with rfl|ha
   ·exact g b hb
   ·exact d a ha b (List.mem_cons_of_mem _ hb))
  refine⟨j,k.trans ?_⟩;exact(hp.append_right l).trans (by simpa using(List.perm_middle (a:=e) (l₁:=c) (l₂:=l)).symm)
theorem sort_same{l:List dP}(h:Dst l):oI l=sortR l:=by
 obtain⟨c,d⟩:=sortR_fold l [] List.Pairwise.nil h (λa b=>by simp at b);obtain⟨e,f⟩:=tP l [] List.Pairwise.nil h (λa b=>by simp at b);refine tO (List.pairwise_reverse.2 e) c ?_;exact(List.reverse_perm _).trans (f.trans d.symm)
theorem ev_mem{i:Nat}{s:di}{e:dP}(h:e∈nP i s):0<=e.1/\e.1∈lM s/\((e.2.2=false/\e.1=s.pt)\/(e.2.2=true/\e.1=s.bk)):=by
 unfold nP at h;rcases List.mem_append.1 h with h|h
 ·split at h
  ·rename_i a;simp only[db]at h;subst h;exact⟨a,by simp[lM],.inl ⟨rfl,rfl⟩⟩
  ·cases h
 ·split at h
  ·rename_i a;simp only[db]at h;subst h;exact⟨a,by simp[lM],.inr ⟨rfl,rfl⟩⟩
  ·cases h
theorem rR:∀(l:List di) (i:Nat) (e:dP),e∈jy i l->∃(k:Nat) (s:di),l[k]? =some s/\e∈nP (i+k) s
 | [],i,e,h=>by cases h
 |a::l,i,e,h=>by
  rw[jy]at h;rcases List.mem_append.1 h with h|h
  ·exact⟨0,a,rfl,h⟩
  ·obtain⟨k,s,b,c⟩:=rR l (i+1) e h;exact⟨k+1,s,by simpa using b,by rw[show i+(k+1)=i+1+k by omega];exact c⟩
theorem evsOf_dst{i:Nat}{s:di}(h:right s=true):Dst (nP i s):=by
 simp only[right,decide_eq_true_eq]at h;unfold nP Dst;split<;>split<;>simp;omega
theorem raw_dst0{L:List di}(b:mayL L):∀(l:List di) (i:Nat),(∀ k s,l[k]? =some s->L[i+k]? =some s)->Dst (jy i l)
 | [],_,_=>List.Pairwise.nil
 |a::l,i,c=>by
  have d:L[i]? =some a:=c 0 a rfl;have f:=(bY.1 d).1;rw[jy];refine List.pairwise_append.2 ⟨evsOf_dst (b i f a d).1,raw_dst0 b l (i+1) (λk s h=>by rw[show i+1+k=i+(k+1)by omega];exact c (k+1) s (by simpa using h)),λx o y g e=>?_⟩;obtain⟨k,s,p,g⟩:=rR l (i+1) y g;obtain⟨t,x1,_⟩:=ev_mem o;obtain⟨u,q,_⟩:=ev_mem g;have j:L[i+(k+1)]? =some s:=c (k+1) s (by simpa using p);have m:=(b _ (bY.1 j).1 s j).2.2 i a dB d;simp only[jA,Bool.or_eq_false_iff]at m;have n:=m.2;rw[shrd,List.any_eq_false]at n;have r:=n y.1 q;apply r;rw[<- e];simp only[cZ,bne_iff_ne,ne_eq];exact⟨dB,List.contains_iff_mem.2 x1⟩
theorem raw_dst{l:List di}(a:mayL l):Dst (nQ l):=raw_dst0 a l 0 λk s h=>by simpa using h
def evs(l:List di):List dP:=sortR (nQ l)
theorem evs_eq{l:List di}(a:mayL l):oI (nQ l)=evs l:=sort_same (raw_dst a)
theorem l_May0{l:List di}(X:l.length<=1000000){A:Option Addr}{c:Nat}{W:World}:∀(d i:Nat) (w:World),fp w A (l.flatMap jS)->ad [] W w->(∀ j,j<i->okAt l j)->i+d=l.length->
  P33_0 (.slice A l.length c) (.slice A l.length c) (bN l.length) (bN i) w λv x=>v= .bool (mI l)/\ad [] W x:=by
 intro d;induction d with
 |zero=>
  intro i w H y r Y;apply L33_0_ok;have:¬((i:Int)<l.length):=dB;simp only[L33_0,ac,aG,this,decide_false,bf];exact⟨by rw[mayB_t λj hj=>r j dB],y⟩
 |succ d Z=>
  intro i w H y r Y;apply L33_0_ok;have I:(i:Int)<l.length:=dB;have q:i<l.length:=dB;obtain⟨b,o,q1,q2⟩:=iQ (c:=c) (j:= .i64) (i:=i) H q;simp only[L33_0,ac,aG,I,decide_true,bE,q1,q2.ld,qK];rw[st_39 (by rfl) (by rfl) (by rw[af,bU rfl];rfl) (by rw[af,bU rfl];rfl),af,bU rfl];simp only[au];have J:∀z:Array Value,ad [] w (put (w.alloc (.cells z 39)) w.heap.size (iW l[i]) 39)/\hp (put (w.alloc (.cells z 39)) w.heap.size (iW l[i]) 39) w.heap.size=some (.cells (iW l[i]) 39):=λz=>
   ⟨((ad.refl _ _).alloc _).put (.inr (cy _)) _ _,by rw[bm,bU rfl,bU (by simp)]⟩
  obtain⟨K,T⟩:=J #[bN 0,bN 0,bN 0,bN 0,bN 0,bN 0,bR 0,bR 0,bN 0,bN 0,bN 0,bN 0,bN 0,bN 0,bN 0,bN 0,bN 0,bN 0,bN 0,bR 0];generalize put (w.alloc (.cells #[bN 0,bN 0,bN 0,bN 0,bN 0,bN 0,bR 0,bR 0,bN 0,bN 0,bN 0,bN 0,bN 0,bN 0,bN 0,bN 0,bN 0,bN 0,bN 0,bR 0] 39)) w.heap.size (iW l[i]) 39=w1 at*;generalize w.heap.size=g at*;have B:=rQ T;simp only[(B.ao (ad.refl [] w1).drew).ld,ac];refine(c_right l[i] w1.drew).mono ?_;rintro v w2 ⟨rfl,f⟩;have f:ad [] w1 w2:=(ad.refl _ _).drew.trans f;have e:=K.trans f;have C:=H.ao e.below;have D:=B.ao f;have t:¬okAt l i->mI l=false:=λh=>mayB_f q h;have G:l[i]? =some l[i]:=bX q;have m:right l[i]=true->(∀ p,0<i->l[i-1]? =some p->p.iv<l[i].iv)->P33_1 (.slice A l.length c) (bS g) (.slice A l.length c) (bN l.length) (bN i) (bN i) (bN 0) w2 λv x=>v= .bool (mI l)/\ad [] W x:=by
   intro h1 h2;refine l_May1 (W:=W) X q (mI l) (fun⟨k,a,hk,ha,L⟩=>t λE=>by
    have:=(E l[i] G).2.2 k a hk ha;rw[L]at this;cases this) (λM x O P=>?_) i 0 w2 C (f.at T (by simp)) (y.trans e) (λk' a a1=>dB) dB
   have h:=Z (i+1) x O P (λj hj=>by
    rcases dh j i with h|h
    ·exact r j h
    ·have:j=i:=dB;subst this;intro s U;rw[G]at U;cases U;exact⟨h1,h2,M⟩) dB
   rw[df i 1]at h;exact h
  cases Q:right l[i]with
  |false=>
   simp only[kn,Bool.not_false,ac,gd_tf,gv_tf,bH,bE,gd_ut,gv_ut];exact⟨by rw[t λh=>by have:=(h l[i] G).1;rw[Q]at this;cases this],y.trans e⟩
  |true=>
   by_cases R:(0:Int)<i
   ·have u:i-1<l.length:=dB;obtain⟨b1,o1,S,V⟩:=iQ (c:=c) (j:= .i64) (i:=i-1) C u;rw[show((i-1:Nat):Int)=(i:Int)-1 by omega]at S;by_cases F:l[i].iv<=l[i-1].iv
    ·simp only[kn,Bool.not_true,ac,gJ,gI,fS,R,decide_true,ox,m5,fa_39_3,ag,D.f8,aH,ap (n:=(i:Int)-1) dB dB,S,V.f8,qj,F,bH,bv,bE];exact⟨by rw[t λh=>by have:=(h l[i] G).2.1 l[i-1] dB (bX u);omega],y.trans e⟩
    ·simp only[kn,Bool.not_true,ac,gJ,gI,fS,R,decide_true,decide_false,ox,m5,fa_39_3,ag,D.f8,aH,ap (n:=(i:Int)-1) dB dB,S,V.f8,qj,F,bH,bv,bf];exact m Q λp _ hp=>by
      rw[bX u]at hp;cases hp;omega
   ·simp only[kn,Bool.not_true,ac,gJ,gI,fS,R,decide_false,gd_ft,gv_ft,bv,bf];exact m Q λp h _=>dB
theorem c_RMay{l:List di}(a:l.length<=1000000){v:Value}{w:World}(b:SlP w v l):aa prog 33 [v] w λr d=>r= .bool (mI l)/\ad [] w d:=by
 obtain⟨A,c,rfl,e⟩:=b;apply F33_ok;simp only[F33,iP,ac];exact l_May0 a l.length 0 w e (ad.refl _ _) (λj f=>dB) dB
theorem l_Ref1{l:List di}(V:l.length<=1000000){A:Option Addr}{c i:Nat}(Q:i<l.length)(I:right l[i]=true){W:World}(r:Bool)(R:(∃ k a,k<i/\l[k]? =some a/\jA a l[i]=true)->r=false)
  (next:(∀ k a,k<i->l[k]? =some a->jA a l[i]=false)->∀w,fp w A (l.flatMap jS)->ad [] W w->P50_0 (.slice A l.length c) (bN ((i:Int)+1)) w λv m=>v= .bool r/\ad [] W m):
  ∀(d k:Nat) (w:World),fp w A (l.flatMap jS)->ad [] W w->(∀ p a,p<k->l[p]? =some a->jA a l[i]=false)->k+d=i->
   P50_1 (.slice A l.length c) (bN i) (bN k) w λv m=>v= .bool r/\ad [] W m:=by
 intro d;induction d with
 |zero=>
  intro k w C z q S;apply L50_1_ok;have:¬((k:Int)<i):=dB;simp only[L50_1,ac,aG,this,decide_false,bf,aj,ap (n:=(i:Int)+1) dB dB];exact next (λp a J B=>q p a dB B) w C z
 |succ d T=>
  intro k w C z q S;apply L50_1_ok;have K:(k:Int)<i:=dB;have t:k<l.length:=dB;obtain⟨b,o,D,L⟩:=iQ (c:=c) (j:= .i64) (i:=k) C t;obtain⟨X,o',p1,p2⟩:=iQ (c:=c) (j:= .i64) (i:=i) C Q;have M:jA l[k] l[i]=false->∀m,ad [] w m->P50_1 (.slice A l.length c) (bN i) (bN ((k:Int)+1)) m λv m=>v= .bool r/\ad [] W m:=by
   intro u m O;have h:=T (k+1) m (C.ao O.below) (z.trans O) (λp a J B=>by
    rcases dh p k with h|h
    ·exact q p a h B
    ·have:p=k:=dB;subst this;rw[bX t]at B;rw[<- Option.some.inj B];exact u) dB
   rw[df k 1]at h;exact h
  have f:jA l[k] l[i]=true->r=false:=λu=>R ⟨k,l[k],dB,bX t,u⟩;have x:shrd l[k] l[i]=shar l[i] l[k]:=shr_eq I;generalize Y:l[i]=s at*;generalize B:l[k]=a at*;simp only[L50_1,ac,aG,K,decide_true,bE,D,p1,(L.ao (ad.refl [] w).drew).ld,(p2.ao (ad.refl [] w).drew).ld];refine(c_share s a w.drew).mono ?_;rintro v w1 ⟨rfl,e⟩;have e:ad [] w w1:=(ad.refl _ _).drew.trans e;have G:=L.ao e;have p3:=p2.ao e;cases y:shar s a with
  |true=>
   simp only[gd_tf,gv_tf,gd_ut,gv_ut,gd_uf,gv_uf,gE_ut,ac,bH,bE];exact⟨by rw[f (by simp[jA,x,y])],z.trans e⟩
  |false=>
   by_cases E:a.wk=s.wk
   ·have U:(a.wk==s.wk)=true:=by rw[E];simp
    simp only[gJ,gI,D,p1,jq,ag,G.f0,p3.f0,ac,be_eql,U,ox,m5,G.ld,p3.ld,gE_true];refine(c_AheadRef a s w1).mono ?_;rintro v w2 ⟨rfl,g⟩;have P:=G.ao g;have p4:=p3.ao g;cases F:ahead a s with
    |false=>
     simp only[kn,Bool.not_false,gd_tf,gv_tf,ac,bH,bv,bE];exact⟨by rw[f (by simp[jA,E,F])],(z.trans e).trans g⟩
    |true=>
     by_cases H:s.ix<=a.ix
     ·simp only[kn,Bool.not_true,gJ,gI,jY,ag,D,p1,P.f1,p4.f1,qj,H,decide_true,ac,bH,bv,bE];exact⟨by rw[f (by simp[jA,E,H])],(z.trans e).trans g⟩
     ·simp only[kn,Bool.not_true,gJ,gI,jY,ag,D,p1,P.f1,p4.f1,qj,H,decide_false,ac,bH,bv,bf,aj,ap (n:=(k:Int)+1) dB dB];exact M (by simp[jA,F,H,x,y]) w2 (e.trans g)
   ·simp only[gJ,gI,D,p1,jq,ag,G.f0,p3.f0,ac,be_eql,aW E,gd_ft,gv_ft,gd_uf,gv_uf,gE_ft,bv,bf,aj,ap (n:=(k:Int)+1) dB dB];exact M (by simp[jA,E,x,y]) w1 e
theorem l_Ref0{l:List di}(S:l.length<=1000000){A:Option Addr}{c:Nat}{W:World}:∀(d i:Nat) (w:World),fp w A (l.flatMap jS)->ad [] W w->(∀ j,j<i->okAt l j)->i+d=l.length->
  P50_0 (.slice A l.length c) (bN i) w λv t=>v= .bool (mI l)/\ad [] W t:=by
 intro d;induction d with
 |zero=>
  intro i w C u m T;apply L50_0_ok;have:¬((i:Int)<l.length):=dB;simp only[L50_0,iP,ac,aG,this,decide_false,bf];exact⟨by rw[mayB_t λj hj=>m j dB],u⟩
 |succ d U=>
  intro i w C u m T;apply L50_0_ok;have D:(i:Int)<l.length:=dB;have g:i<l.length:=dB;obtain⟨b,o,E,M⟩:=iQ (c:=c) (j:= .i64) (i:=i) C g;simp only[L50_0,iP,ac,aG,D,decide_true,bE,E,(M.ao (ad.refl [] w).drew).ld];refine(c_one l[i] w.drew).mono ?_;rintro v w2 ⟨rfl,e⟩;have e:ad [] w w2:=(ad.refl _ _).drew.trans e;have x:=C.ao e.below;have O:=M.ao e;have q:¬okAt l i->mI l=false:=λh=>mayB_f g h;have B:l[i]? =some l[i]:=bX g;have f:right l[i]=true->(∀ p,0<i->l[i-1]? =some p->p.iv<l[i].iv)->P50_1 (.slice A l.length c) (bN i) (bN 0) w2 λv t=>v= .bool (mI l)/\ad [] W t:=by
   intro P V;refine l_Ref1 (W:=W) S g P (mI l) (fun⟨k,a,X,Y,F⟩=>q λy=>by
    have:=(y l[i] B).2.2 k a X Y;rw[F]at this;cases this) (λG t H I=>?_) i 0 w2 x (u.trans e) (λk' a Z=>dB) dB
   have h:=U (i+1) t H I (λj hj=>by
    rcases dh j i with h|h
    ·exact m j h
    ·have:j=i:=dB;subst this;intro s Q;rw[B]at Q;cases Q;exact⟨P,V,G⟩) dB
   rw[df i 1]at h;exact h
  cases J:right l[i]with
  |false=>
   simp only[kn,Bool.not_false,ac,gd_tf,gv_tf,bH,bE,gd_ut,gv_ut];exact⟨by rw[q λh=>by have:=(h l[i] B).1;rw[J]at this;cases this],u.trans e⟩
  |true=>
   by_cases K:(0:Int)<i
   ·have r:i-1<l.length:=dB;obtain⟨b1,o1,L,R⟩:=iQ (c:=c) (j:= .i64) (i:=i-1) x r;rw[show((i-1:Nat):Int)=(i:Int)-1 by omega]at L;by_cases z:l[i].iv<=l[i-1].iv
    ·simp only[kn,Bool.not_true,ac,gJ,gI,fS,K,decide_true,ox,m5,E,fa_39_3,ag,O.f8,aH,ap (n:=(i:Int)-1) dB dB,L,R.f8,qj,z,bH,bv,bE];exact⟨by rw[q λh=>by have:=(h l[i] B).2.1 l[i-1] dB (bX r);omega],u.trans e⟩
    ·simp only[kn,Bool.not_true,ac,gJ,gI,fS,K,decide_true,decide_false,ox,m5,E,fa_39_3,ag,O.f8,aH,ap (n:=(i:Int)-1) dB dB,L,R.f8,qj,z,bH,bv,bf];exact f J λp _ hp=>by
      rw[bX r]at hp;cases hp;omega
   ·simp only[kn,Bool.not_true,ac,gJ,gI,fS,K,decide_false,gd_ft,gv_ft,bv,bf];exact f J λp h _=>dB
theorem c_RMayRef{l:List di}(a:l.length<=1000000){v:Value}{w:World}(b:SlP w v l):aa prog 50 [v] w λr d=>r= .bool (mI l)/\ad [] w d:=by
 obtain⟨A,c,rfl,e⟩:=b;apply F50_ok;simp only[F50];exact l_Ref0 a l.length 0 w e (ad.refl _ _) (λj f=>dB) dB
end Go.Proofs.YtnpflajdbchghaaGreat
