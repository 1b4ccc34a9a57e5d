/- Parts of the proof of SearchFinds, one behind the other. Conditions: none. -/
import Derived.Test.YtnpflajdbchghaaGreatZSearchFinds14
set_option linter.unusedSimpArgs false
set_option linter.unusedVariables false
set_option maxHeartbeats 4000000
set_option maxRecDepth 100000
noncomputable section
namespace Go.Proofs.YtnpflajdbchghaaGreat
open Tryz(prog underlying22)
open Go Ev Go.RowKit
def tX(l:List dR)(put:List Int):Nat:=(List.range l.length).countP λi:Nat=> !put.contains (i:Int)
theorem countP_lt{p q:Nat->Bool}:∀{L:List Nat},(∀ x∈L,q x=true->p x=true)->(∃ x∈L,p x=true/\q x=false)->L.countP q<L.countP p
 | [],_,⟨x,hx,_⟩=>by cases hx
 |y::L,h,a=>by
  rw[List.countP_cons,List.countP_cons];have f:L.countP q<=L.countP p:=List.countP_mono_left λx hx=>h x (List.mem_cons_of_mem _ hx);by_cases b:p y=true/\q y=false
  ·rw[bX b.1,b.2];simp only[Bool.false_eq_true,if_false];omega
  ·obtain⟨x,hx,d,e⟩:=a;rcases dg.1 hx with rfl|hx
   ·exact absurd ⟨d,e⟩ b
   ·have:=countP_lt (L:=L) (λx hx=>h x (List.mem_cons_of_mem _ hx)) ⟨x,hx,d,e⟩;have:=h y (by simp);by_cases c:q y=true
    ·rw[bX c,bX (this c)];omega
    ·rw[bY c];split<;>omega
theorem leftN_lt{l:List dR}{put:List Int}{i:Nat}(c:i<l.length)(a:kq l put i=true):tX l (put++ [(i:Int)])<tX l put:=by
 have d:put.contains (i:Int)=false:=by
  unfold kq at a;simp only[de,Bool.not_eq_true']at a;exact a.2
 refine countP_lt (p:=λx:Nat=> !put.contains (x:Int)) (q:=λx:Nat=> !(put++ [(i:Int)]).contains (x:Int)) (λx _ b=>?_) ⟨i,List.mem_range.2 c,?_,?_⟩
 ·cases h:put.contains (x:Int)with
  |false=>rfl
  |true=>
   have:(put++ [(i:Int)]).contains (x:Int)=true:=List.contains_iff_mem.2 (List.mem_append_left _ (List.contains_iff_mem.1 h));simp only[this]at b;cases b
 ·simp only[d];rfl
 ·have:(put++ [(i:Int)]).contains (i:Int)=true:=List.contains_iff_mem.2 (by simp);simp only[this];rfl
theorem goV_t{rec:dv->List Int->Int->SkO}{l:List dR}{top:Int}{m:dv}{put:List Int}(a:∀m p t,t<=(rec m p t).2.2.1):∀{is:List Nat} {t:Int},t<=(pq rec l top m put is t).2.2.1
 | [],t=>dj _
 |i::is,t=>by
  unfold pq;split
  ·exact goV_t a
  ·cases e:l[i]? with
   |none=>exact dj _
   |some s=>
    simp only;cases c:po l m s with
    |none=>exact goV_t a
    |some r=>
     simp only;split
     ·exact dj _
     ·split
      ·exact Int.le_trans dy (goV_t (t:=t+1) a)
      ·have d:=a (lY m s.wk s.op (bO l s) r).2 (put++ [(i:Int)]) (t+1);generalize rec (lY m s.wk s.op (bO l s) r).2 (put++ [(i:Int)]) (t+1)=R at*;obtain⟨b,p',t',mn⟩:=R;simp only at d;cases b with
       |true=>simp only;omega
       |false=>
        cases mn with
        |true=>simp only;omega
        |false=>exact Int.le_trans dy (goV_t (t:=t') a)
theorem findV_t{l:List dR}{top:Int}:∀{f:Nat} {m:dv} {p:List Int} {t:Int},t<=(dQ l top f m p t).2.2.1
 |0,m,p,t=>dj _
 |f+1,m,p,t=>by
  unfold dQ;split
  ·exact dj _
  ·exact goV_t λm p t=>findV_t
def Gs(sk:Nat)(pv:Value):Fp:=λk=>k=sk\/pv.ownBlock=some k
structure SkI(W w:World)(sk:Nat)(A Ah:Option Addr)(cs ch:Nat)(l:List dR)(pv:Value)(put:List Int)(t top:Int)(mn:Bool):Prop where
 aw:aW (· =sk) W w
 h:hp w sk=some (.cells (tQ A Ah l.length cs ch pv t top mn) 84)
 own:w.ownsRow W.heap.size 3 1 pv put.length (ints put)
structure SkB(W:World)(sk:Nat)(A Ah:Option Addr)(l:List dR):Prop where
 lt:sk<W.heap.size
 rs:ed W A (l.flatMap ji)
 ns:∀p,A=some p->l≠ []->p.block≠sk
 rh:ed W Ah ((l.map (bO l)).flatMap bB)
 nh:∀p,Ah=some p->l≠ []->p.block≠sk
section
variable{W w w':World}{sk:Nat}{A Ah:Option Addr}{cs ch:Nat}{l:List dR}{pv pv':Value}{put:List Int}{t top:Int}{mn:Bool}
theorem SkI.an(S:SkI W w sk A Ah cs ch l pv put t top mn)(a:ad [] w w'):SkI W w' sk A Ah cs ch l pv put t top mn:=
 ⟨⟨a.os.trans S.aw.os,a.tape.trans S.aw.tape,a.output.trans S.aw.output,cQ S.aw.size a.size,λk b c=>(a.block k (cY b S.aw.size) (by simp)).trans (S.aw.block k b c)⟩,a.at S.h (by simp),eZ S.own a λk b=>by simp⟩
theorem SkI.rs(S:SkI W w sk A Ah cs ch l pv put t top mn)(B:SkB W sk A Ah l):ed w A (l.flatMap ji):=rd_chgP B.rs S.aw λp hp a=>B.ns p hp λh=>a (by rw[h];rfl)
theorem SkI.rh(S:SkI W w sk A Ah cs ch l pv put t top mn)(B:SkB W sk A Ah l):ed w Ah ((l.map (bO l)).flatMap bB):=rd_chgP B.rh S.aw λp hp a=>B.nh p hp λh=>a (by rw[h];rfl)
theorem SkI.li(S:SkI W w sk A Ah cs ch l pv put t top mn):sY w pv put:=sY.of_own S.own
theorem SkI.set(S:SkI W w sk A Ah cs ch l pv put t top mn){put':List Int}{t':Int}{mn':Bool}(e:∀k,pv.ownBlock=some k->k≠sk)(f:w.ownsRow W.heap.size 3 1 pv' put'.length (ints put'))(b:∀k,pv'.ownBlock=some k->k≠sk):
  SkI W (Ev.put w sk (tQ A Ah l.length cs ch pv' t' top mn') 84) sk A Ah cs ch l pv' put' t' top mn':=by
 have a:=aW.put w sk (tQ A Ah l.length cs ch pv' t' top mn') 84;refine⟨⟨S.aw.os,S.aw.tape,S.aw.output,cQ S.aw.size a.size,λk c d=>(a.block k (cY c S.aw.size) d).trans (S.aw.block k c d)⟩,aq (az S.h) _ _,?_⟩;exact a.row f b
theorem hn_at{L:List eF}{c i:Nat}(h:ed w A (L.flatMap bB))(d:i<L.length):∃b o,ai prog (Instr.indexAt 76 (.slice A L.length c) (bS i))=some (.pointer (some ⟨b,o,none⟩))/\fR prog 32 (.pointer (some ⟨b,o,none⟩)) w=some (.agg (bB L[i]).toArray):=by
 obtain⟨b,o,e,f,a,_⟩:=h.elem (P:=prog) (c:=c) (n:=L.length) (i:=(i:Int)) (j:= .i64) Tryz.underlying76 ma dy (by rw[bN oW];exact cy _) dy dy;rw[cq,lg oW L i d]at a;exact⟨b,o,e,by rw[ld_32,a];rfl⟩
end
theorem setWord_cO(m:dv)(h:eF)(n y:Int):(dX m h n y).c=m.c:=by
 unfold dX;repeat' split
 all_goals rfl
theorem does_cO(m:dv)(w:Int)(o:ez)(h:eF):(fF m w o h).c=m.c:=by
 unfold fF;repeat' split
 all_goals first|rfl|exact setWord_cO _ _ _ _
theorem creates_cO(m:dv)(x:Int)(r:jo):(cx m x r).2.c=m.c:=by
 unfold cx;repeat' split
 all_goals rfl
theorem gives_cO(m:dv)(x:Int)(h:eF)(r:jo):(gB m x h r).2.c=m.c:=by
 unfold gB;split
 ·rfl
 split
 ·rfl
 ·dsimp only;split
  ·rfl
  split
  ·rfl
  split
  ·rfl
  ·rfl
theorem do_cO(m:dv)(w:Int)(o:ez)(h:eF)(r:jo):(lY m w o h r).2.c=m.c:=by
 unfold lY;split
 ·rfl
 split
 ·split
  ·dsimp only;split
   ·exact does_cO _ _ _ _
   ·rfl
  ·rfl
 split
 ·exact creates_cO _ _ _
 ·exact gives_cO _ _ _ _
structure StO(m:dv)(c:cP)(K:Nat):Prop where
 wf:Wf m K
 wn:Wn m K
 mc:m.c=c
theorem StO.lY{m:dv}{c:cP}{K:Nat}(s:StO m c K)(a:K<=1000)(w:Int)(o:ez)(h:eF)(r:jo):StO (lY m w o h r).2 c (K+1):=⟨s.wf.lY w o h r,s.wn.lY dy w o h r,(do_cO m w o h r).trans s.mc⟩
theorem StO.hands{m:dv}{c:cP}{K:Nat}(s:StO m c K)(a:hY c=true):m.hands.length<=1000000:=by
 have b:=s.wn.cw;rw[s.mc]at b;simp only[hY,de,decide_eq_true_eq]at a;omega
section
variable{W:World}{sk:Nat}{A Ah:Option Addr}{cs ch:Nat}{l:List dR}{top:Int}
theorem SkI.nsk{w:World}{pv:Value}{put:List Int}{t:Int}{mn:Bool}(S:SkI W w sk A Ah cs ch l pv put t top mn)(B:SkB W sk A Ah l):∀k,pv.ownBlock=some k->k≠sk:=λk a=>by
 have:=m6 S.own a;have:=B.lt;omega
theorem upd_md{w w':World}{g:Nat}{m:dv}{F G a:Fp}(I:jP w g m F)(b:oj F G)(u:aO G a w w'):jP w' g m F/\oj F a:=
 ⟨dV.frame I (gF _) u.aw b,λk c d=>by
  rcases u.sub k d with h3|h3
  ·exact b k c h3
  ·have:=dV.lt I (gF _) k c;omega⟩
def SkP(W:World)(sk:Nat)(A Ah:Option Addr)(cs ch:Nat)(l:List dR)(top:Int)(w0:World)(a:Value)(r:SkO)(v:Value)(w':World):Prop:=
 ∃pv',v= .bool r.1/\SkI W w' sk A Ah cs ch l pv' r.2.1 r.2.2.1 top r.2.2.2/\aO (Gs sk a) (Gs sk pv') w0 w'
def FindC(W:World)(sk:Nat)(A Ah:Option Addr)(cs ch:Nat)(l:List dR)(top:Int)(c:cP)(f:Nat):Prop:=∀(m:dv) (g:Nat) (F:Fp) (K:Nat) (put:List Int) (t:Int) (pv:Value) (w:World),
 SkI W w sk A Ah cs ch l pv put t top false->jP w g m F->oj F (Gs sk pv)->StO m c K->K+f<=900->put.length+f<=900->0<=t->tX l put<f->
 aa prog 34 [bU sk,bU g] w (SkP W sk A Ah cs ch l top w pv (dQ l top f m put t))
theorem own_lt{w:World}{base:Nat}{e:TypeId}{z:Nat}{v:Value}{n:Nat}{xs:List Value}(h:w.ownsRow base e z v n xs){k:Nat}(a:v.ownBlock=some k):k<w.heap.size:=by
 rcases h.2 with⟨rfl,_⟩|⟨g,b,c,rfl,d,f,_⟩
 ·cases a
 ·cases a;exact az (o:=_) f
theorem aO.setSk{w:World}{pv:Value}(c:Array Value)(e:TypeId):aO (Gs sk pv) (Gs sk pv) w (Ev.put w sk c e):=
 ⟨(aW.put w sk c e).mono λk a=> .inl a,λk a=> .inl a⟩
theorem ld_rsW{w:World}{r:jo}{g:Nat}{e:TypeId}(hb:hp w g=some (.cells (fI r).toArray e)):fR prog 35 (bU g) w=some (.agg (fI r).toArray):=aR (t:=35) (c:=(fI r).toArray) ag_35 (show(Tryz.prog.info? 35).map (·.size)=some (fI r).toArray.size from sz_35) hb
theorem own_shrink{w:World}{base n:Nat}{e:TypeId}{v:Value}{xs:List Int}{x:Int}(h:w.ownsRow base e 1 v (n+1) (ints (xs++ [x])))(k:n=xs.length):
  ∃g c,v= .slice (some ⟨g,0,none⟩) (n+1) c/\n<=c/\w.ownsRow base e 1 (.slice (some ⟨g,0,none⟩) n c) n (ints xs):=by
 rcases h.2 with⟨rfl,o⟩|⟨g,b,d,rfl,f,l,m,i,j,a⟩
 ·omega
 ·refine⟨g,b,rfl,dy,⟨by simp[ints,k],.inr ⟨g,b,d,rfl,f,l,dy,i,j,?_⟩⟩⟩;have:=congrArg (List.take n) a;rw[List.take_take]at this;rw[dm,Nat.min_eq_left dy]at this;rw[dm,this,k];simp[ints]
def zRsA:Array Value:= #[bS 0,bS 0,bS 0,bS 0,bS 0,bS 0,bS 0,bT 0]
theorem skA_5{n:Nat}{pv:Value}{t:Int}{mn x:Bool}:(tQ A Ah n cs ch pv t top mn).setIfInBounds (0+5) (.bool x)=tQ A Ah n cs ch pv t top x:=rfl
theorem skA_3{n:Nat}{pv:Value}{t x:Int}{mn:Bool}:(tQ A Ah n cs ch pv t top mn).setIfInBounds (0+3) (bS x)=tQ A Ah n cs ch pv x top mn:=rfl
theorem skA_2{n:Nat}{pv x:Value}{t:Int}{mn:Bool}:(tQ A Ah n cs ch pv t top mn).setIfInBounds (0+2) x=tQ A Ah n cs ch x t top mn:=rfl
theorem l_sgo(B:SkB W sk A Ah l)(hl:l.length<=12)(i7:top<=9223372036854775807){c:cP}(hc:hY c=true){f:Nat}(rec:FindC W sk A Ah cs ch l top c f){m:dv}{g:Nat}{F:Fp}{K:Nat}{put:List Int}(Sm:StO m c K)(hK:K+f<=899)(j1:put.length+f<=899)(e9:tX l put<=f){w0:World}{C:Value}:
  ∀(d i:Nat) (t:Int) (pv:Value) (w:World),SkI W w sk A Ah cs ch l pv put t top false->jP w g m F->oj F (Gs sk pv)->aO (Gs sk C) (Gs sk pv) w0 w->0<=t->i+d=l.length->
  P34_0 (bU sk) (bU g) (.slice A l.length cs) (bS l.length) (bS i) w (SkP W sk A Ah cs ch l top w0 C (pq (dQ l top f) l top m put (List.range' i d) t)):=by
 intro d;induction d with
 |zero=>
  intro i t pv w S I hF hU ht hi;apply L34_0_ok;have:¬((i:Int)<l.length):=dy;simp only[L34_0,zS,this];exact⟨pv,rfl,S,hU⟩
 |succ d ih=>
  intro i t pv w S I hF hU ht hi;apply L34_0_ok;have f2:(i:Int)<l.length:=dy;have M:i<l.length:=dy;obtain⟨b,o,q1,q2⟩:=hJ (c:=cs) (j:= .i64) (i:=i) (S.rs B) M;simp only[L34_0,zS,f2,q1,q2.ld,al_39];rw[st_39 (by rfl) (by rfl) (by rw[af,bX rfl];rfl) (by rw[af,bX rfl];rfl),af,bX rfl,ar];generalize a9:Ev.put (w.alloc _) w.heap.size (jV l[i]) 39=w1;have c1:ad [] w w1:=by rw[<- a9];exact((ad.refl _ _).alloc _).put (.inr (cy _)) _ _
  have b6:hp w1 w.heap.size=some (.cells (jV l[i]) 39):=by rw[<- a9,bf,bX rfl,bX (by simp)]
  clear a9;have j2:sk<w.heap.size:=az S.h;have f3:∀k,pv.ownBlock=some k->k<w.heap.size:=λk hk=>own_lt S.own hk;generalize j3:w.heap.size=O at*;have next:∀(t':Int) (pv':Value) (w':World),SkI W w' sk A Ah cs ch l pv' put t' top false->jP w' g m F->oj F (Gs sk pv')->aO (Gs sk C) (Gs sk pv') w0 w'->0<=t'->
    P34_1 (bU sk) (bU g) (.slice A l.length cs) (bS l.length) (bS i) w' (SkP W sk A Ah cs ch l top w0 C (pq (dQ l top f) l top m put (List.range' (i+1) d) t')):=by
   intro t' pv' w' S' I' f4 f5 b1;apply L34_1_ok;simp only[L34_1,aj,ap (n:=(i:Int)+1) dy dy,zS];exact ih (i+1) t' pv' w' S' I' f4 f5 b1 dy
  have S1:=S.an c1;have I1:=I.an c1;have U1:=hU.trans (aO.bV c1);refine(c_sMay dy (S1.rs B) dy S1.h S1.li M).mono ?_;rintro _ w2 ⟨rfl,c2⟩;have S2:=S1.an c2;have I2:=I1.an c2;have U2:=U1.trans (aO.bV c2);have X:=c2.at b6 (by simp);have Y:List.range' i (d+1)=i::List.range' (i+1) d:=rfl;rw[Y];cases hn:kq l put i with
  |false=>
   simp only[zS];have:pq (dQ l top f) l top m put (i::List.range' (i+1) d) t=pq (dQ l top f) l top m put (List.range' (i+1) d) t:=by
    rw[pq,bX hn]
   rw[this];exact next t pv w2 S2 I2 hF U2 ht
  |true=>
  have d1:pq (dQ l top f) l top m put (i::List.range' (i+1) d) t=(match po l m l[i]with
   |none=>pq (dQ l top f) l top m put (List.range' (i+1) d) t
   |some r=>
    if top<=t then(false,put,t,true)else
    if(lY m l[i].wk l[i].op (bO l l[i]) r).1=false then pq (dQ l top f) l top m put (List.range' (i+1) d) (t+1)else
    match dQ l top f (lY m l[i].wk l[i].op (bO l l[i]) r).2 (put++ [(i:Int)]) (t+1)with
    |(true,p',t',mn)=>(true,p',t',mn)
    |(false,p',t',true)=>(false,p',t',true)
    |(false,p',t',false)=>pq (dQ l top f) l top m put (List.range' (i+1) d) t'):=by
   rw[pq,bY (by rw[hn];simp),bZ M];all_goals rfl
  rw[d1];clear d1;generalize hs:l[i]=s at*;have d2:i<(l.map (bO l)).length:=by rw[List.length_map];exact M
  have d3:(l.map (bO l))[i]=bO l s:=by rw[List.getElem_map,hs]
  simp only[zS,jg,At.ldre X,sn];rw[hI (c:=_) (e:=35) (by rw[af,bX rfl]) rfl];generalize b2:Ev.put (w2.alloc _) w2.heap.size (fI s.re).toArray 35=q;have c3:ad [] w2 q:=by rw[<- b2];exact((ad.refl _ _).alloc _).put (.inr (cy _)) _ _
  have b7:hp q w2.heap.size=some (.cells (fI s.re).toArray 35):=by rw[<- b2,bf,bX rfl,bX (by simp)]
  clear b2;have i8:O<w2.heap.size:=az X;generalize j4:w2.heap.size=g7 at*;have Z:=c3.at X (by simp);have S3:=S2.an c3;have I3:=I2.an c3;have U3:=U2.trans (aO.bV c3);have u:∀(r:jo) (z:World),ad [] w2 z->hp z g7=some (.cells (fI r).toArray 35)->
    P34_3 (bU sk) (bU g) (bS i) (bU O) (bU g7) (.slice A l.length cs) (bS l.length) (bS i) z (SkP W sk A Ah cs ch l top w0 C (
    if top<=t then(false,put,t,true)else
    if(lY m s.wk s.op (bO l s) r).1=false then pq (dQ l top f) l top m put (List.range' (i+1) d) (t+1)else
    match dQ l top f (lY m s.wk s.op (bO l s) r).2 (put++ [(i:Int)]) (t+1)with
    |(true,p',t',mn)=>(true,p',t',mn)
    |(false,p',t',true)=>(false,p',t',true)
    |(false,p',t',false)=>pq (dQ l top f) l top m put (List.range' (i+1) d) t')):=by
   intro r z a1 b3;apply L34_3_ok;have D:=(S2.an a1).an (ad.refl [] z).drew;have I4:=(I2.an a1).an (ad.refl [] z).drew;have U4:=U2.trans (aO.bV (a1.trans (ad.refl [] z).drew));have f6:hp z.drew O=some (.cells (jV s) 39):=a1.at X (by simp);have b3:hp z.drew g7=some (.cells (fI r).toArray 35):=b3;have h4:hp z sk=some (.cells (tQ A Ah l.length cs ch pv t top false) 84):=D.h;have j5:sk<z.drew.heap.size:=az D.h;have ok:∀k,k<6->mX (hp z.drew sk) (0+k+1)=true:=λk hk=>by rw[D.h,aT];exact cj (by show 0+k+1<=6;omega)
   simp only[L34_3,ae,zS,fa_84_3,fa_84_4,fa_84_5,ag,sk3 h4,sk4 h4];by_cases d4:top<=t
   ·simp only[zS,d4];rw[fC mQ rfl rfl (ok 5 dy),D.h];simp only[ay,ar,skA_5,if_true];exact⟨pv,rfl,D.set (D.nsk B) D.own (D.nsk B),U4.trans (aO.setSk _ _)⟩
   simp only[zS,d4,aj,ap (n:=t+1) dy dy];rw[fC aE rfl rfl (ok 3 dy),D.h];simp only[ay,ar,skA_3,if_false];have S5:=D.set (put':=put) (t':=t+1) (mn':=false) (D.nsk B) D.own (D.nsk B);have u5:=aO.setSk (w:=z.drew) (sk:=sk) (pv:=pv) (tQ A Ah l.length cs ch pv (t+1) top false) 84;obtain⟨I5,_⟩:=upd_md I4 hF u5;have U5:=U4.trans u5;have nG:∀k,O<=k->¬Gs sk pv k:=λk hk h=>by
    rcases h with h|h
    ·omega
    ·have:=f3 k h;omega
   have f7:=u5.aw.at f6 (nG O (cy _));have a2:=u5.aw.at b3 (nG g7 dy);generalize Ev.put z.drew sk (tQ A Ah l.length cs ch pv (t+1) top false) 84=E at*;refine(c_mCopy I5 Sm.wf dy (Sm.hands hc)).mono ?_;rintro _ w6 ⟨g3,F3,rfl,I6,d5,c6⟩;have Q:=c6.trans (ad.refl [] w6).drew;have S6:=S5.an Q;have d6:=Q.at f7 (by simp);have g1:=Q.at a2 (by simp);obtain⟨bh,oh,p1,p2⟩:=hn_at (c:=ch) (S6.rh B) d2;rw[List.length_map]at p1;rw[d3]at p2;have h6:hp w6 sk=some (.cells (tQ A Ah l.length cs ch pv (t+1) top false) 84):=S6.h;have g2:ao (hp w6 O) (0+0)=some (bS s.wk):=rm (w:=w6) d6 0;simp only[zS,fa_84_1,ic,jf,ag,sh,g2,(pj d6).ldop,sk1 h6,p1,p2,ld_rsW g1];refine(c_mDo (I6.an (ad.refl [] w6).drew) Sm.wf dy _ _ _ _).mono ?_;rintro _ w7 ⟨rfl,F4,I7,u7⟩;have b4:ad [] E w7:=sI Q u7 d5;have g4:∀k,F4 k->E.heap.size<=k:=sJ Q u7 d5;have G:=S5.an b4;have d7:=I5.an b4;have U7:=U5.trans (aO.bV b4);cases j6:(lY m s.wk s.op (bO l s) r).1 with
   |false=>
    simp only[zS,if_true];exact next (t+1) pv w7 G d7 hF U7 dy
   |true=>
   have h7:=G.h;simp only[zS,fa_84_2,aH,sk2 h7,if_false,Bool.true_eq_false];refine ps_22 (by simp) G.own dy G.aw.size λa U o8 g8 n8=>?_;have c8:ad (eY pv) w7 U:=(ad.refl _ _).grown g8 λk hk=> .inl (by simpa using hk);have h8:hp U sk=some (.cells (tQ A Ah l.length cs ch pv (t+1) top false) 84):=c8.at h7 λhm=>(G.nsk B) sk (by simpa using hm) rfl;have u8:aO (Gs sk pv) (Gs sk a) w7 U:=⟨(aW.of c8).mono λk hk=> .inr (by simpa using hk),λk hk=>by
    rcases hk with hk|hk
    ·exact .inl (.inl hk)
    ·rcases n8 k hk with h|h
     ·exact .inl (.inr h)
     ·exact .inr h⟩
   have d8:∀k,a.ownBlock=some k->k≠sk:=λk hk=>by have:=m6 o8 hk;have:=B.lt;omega
   have g5:mX (hp U sk) (0+2+1)=true:=by rw[h8,aT];exact cj (by show 0+2+1<=6;omega)
   have a3:a.cells= #[a]/\a.oneCell'=true:=by
    obtain⟨A8,j7,rfl,_⟩:=aG o8;exact⟨rfl,rfl⟩
   rw[fC sz_22 a3.1 a3.2 g5,h8];simp only[ay,ar,skA_2];have S8:SkI W U sk A Ah cs ch l pv put (t+1) top false->True:=λ_=>trivial;have H:=aW.put U sk (tQ A Ah l.length cs ch a (t+1) top false) 84;have u9:aO (Gs sk a) (Gs sk a) U (Ev.put U sk (tQ A Ah l.length cs ch a (t+1) top false) 84):=aO.setSk _ _;have S9:SkI W (Ev.put U sk (tQ A Ah l.length cs ch a (t+1) top false) 84) sk A Ah cs ch l a (put++ [(i:Int)]) (t+1) top false:=by
    refine⟨⟨H.os.trans (c8.os.trans G.aw.os),H.tape.trans (c8.tape.trans G.aw.tape),H.output.trans (c8.output.trans G.aw.output),cQ G.aw.size (cQ c8.size H.size),λk hk hn=>?_⟩,aq (az h8) _ _,?_⟩
    ·rw[H.block k (cY hk (cQ G.aw.size c8.size)) hn,c8.block k (cY hk G.aw.size) λhm=>by have:=m6 G.own (k:=k) (by simpa using hm);omega];exact G.aw.block k hk hn
    ·refine H.row ?_ d8;rw[cJ];simpa [ints]using o8
   generalize Ev.put U sk (tQ A Ah l.length cs ch a (t+1) top false) 84=w9 at*;have b9:=u8.trans u9;obtain⟨g9,h5⟩:=upd_md d7 hF b9;have d9:oj F4 (Gs sk pv):=λk h1 h2=>by
    have:=g4 k h1;rcases h2 with h2|h2
    ·have:=az S5.h;omega
    ·have:=own_lt S5.own h2;omega
   obtain⟨h9,e2⟩:=upd_md I7 d9 b9;have j8:=leftN_lt M hn;refine(rec _ g3 F4 (K+1) (put++ [(i:Int)]) (t+1) a w9 S9 h9 e2 (Sm.lY dy _ _ _ _) dy (by simp;omega) dy dy).mono ?_;rintro v J ⟨a4,rfl,L,u10⟩;have b1:=findV_t (l:=l) (top:=top) (f:=f) (m:=(lY m s.wk s.op (bO l s) r).2) (p:=put++ [(i:Int)]) (t:=t+1);have a5:=findV_put (l:=l) (top:=top) (f:=f) (m:=(lY m s.wk s.op (bO l s) r).2) (put:=put++ [(i:Int)]) (t:=t+1);have c4:=(U7.trans b9).trans u10;generalize dQ l top f (lY m s.wk s.op (bO l s) r).2 (put++ [(i:Int)]) (t+1)=R at*;obtain⟨bb,p',t',mn'⟩:=R;simp only at L b1 a5;cases bb with
   |true=>
    simp only[zS];exact⟨a4,rfl,L,c4⟩
   |false=>
   have c7:=L.h;simp only[zS,aB,sk5 c7];cases mn' with
   |true=>
    simp only[zS];exact⟨a4,rfl,L,c4⟩
   |false=>
   obtain rfl:=a5 rfl rfl;have e3:=L.own;rw[cJ]at e3;obtain⟨x,y,rfl,i1,i2⟩:=own_shrink (n:=put.length) e3 rfl;have a6:ad [] J J.drew:=(ad.refl _ _).drew;have T:=L.an a6;have a7:hp J.drew sk=some (.cells (tQ A Ah l.length cs ch (.slice (some ⟨x,0,none⟩) (put.length+1) y) t' top false) 84):=c7;have e1:(((put.length+1:Nat):Int)-1)=((put.length:Nat):Int):=dy;have i3:mX (hp J.drew sk) (0+2+1)=true:=by rw[a7,aT];exact cj (by show 0+2+1<=6;omega)
   have e4:=uc (P:=prog) (t:=22) (A:=some ⟨x,0,none⟩) (n:=put.length+1) (c:=y) (k:= .i64) (l:=((put.length:Nat):Int)) underlying22 aE dy dy;rw[cq]at e4;simp only[zS,sk2 c7,aK,aZ,e1,ap (n:=((put.length:Nat):Int)) dy dy,e4];rw[fC sz_22 rfl rfl i3,a7];simp only[ay,ar,skA_2];have i4:=T.set (pv':= .slice (some ⟨x,0,none⟩) put.length y) (put':=put) (t':=t') (mn':=false) (T.nsk B) (ownsRow_drew i2) (λk hk=>T.nsk B k hk);have u11:aO (Gs sk (.slice (some ⟨x,0,none⟩) (put.length+1) y)) (Gs sk (.slice (some ⟨x,0,none⟩) put.length y)) J (Ev.put J.drew sk (tQ A Ah l.length cs ch (.slice (some ⟨x,0,none⟩) put.length y) t' top false) 84):=
    (aO.bV a6).trans (aO.setSk (pv:= .slice (some ⟨x,0,none⟩) put.length y) _ _)
   obtain⟨e5,e6⟩:=upd_md g9 h5 u10;obtain⟨e7,e8⟩:=upd_md e5 e6 u11;exact next t' _ _ i4 e7 e8 (c4.trans u11) dy
  have c9:ao (hp q O) (0+11)=some (bS s.rs):=rm Z 11;have f9:ao (hp q O) (0+9)=some (bS s.pt):=rm Z 9;have f0:ao (hp q O) (0+0)=some (bS s.wk):=rm Z 0;by_cases h1:s.rs<0
  case neg=>
   have hr:po l m s=some s.re:=by rw[po,bY (λh=>h1 h.1)]
   rw[hr];simp only[zS,gS,ag,c9,h1];exact u s.re q c3 b7
  by_cases h2:s.pt<0
  case neg=>
   have hr:po l m s=some s.re:=by rw[po,bY (λh=>h2 h.2)]
   rw[hr];simp only[zS,lj,gS,ag,c9,f9,h1,h2];exact u s.re q c3 b7
  have hr:po l m s=if(dI m s.wk s.op (bO l s)).2=true then some (dI m s.wk s.op (bO l s)).1 else none:=by rw[po,bX ⟨h1,h2⟩]
  rw[hr];have i9:g7<q.heap.size:=az b7;have a8:∀(E:World) (g8:Nat),ad [] q E->hp E g8=some (.cells (fI (dI m s.wk s.op (bO l s)).1).toArray 35)->q.heap.size<=g8->
    P34_2 (bU sk) (bU g) (bS i) (bU O) (bU g7) (bU g8) (.bool (dI m s.wk s.op (bO l s)).2) (.slice A l.length cs) (bS l.length) (bS i) E (SkP W sk A Ah cs ch l top w0 C (
    match(if(dI m s.wk s.op (bO l s)).2=true then some (dI m s.wk s.op (bO l s)).1 else none)with
    |none=>pq (dQ l top f) l top m put (List.range' (i+1) d) t
    |some r=>
     if top<=t then(false,put,t,true)else
     if(lY m s.wk s.op (bO l s) r).1=false then pq (dQ l top f) l top m put (List.range' (i+1) d) (t+1)else
     match dQ l top f (lY m s.wk s.op (bO l s) r).2 (put++ [(i:Int)]) (t+1)with
     |(true,p',t',mn)=>(true,p',t',mn)
     |(false,p',t',true)=>(false,p',t',true)
     |(false,p',t',false)=>pq (dQ l top f) l top m put (List.range' (i+1) d) t')):=by
   intro E g8 V b8 j9;apply L34_2_ok;cases k1:(dI m s.wk s.op (bO l s)).2 with
   |false=>
    simp only[L34_2,zS,if_false,Bool.false_eq_true];exact next t pv E (S3.an V) (I3.an V) hF (U3.trans (aO.bV V)) ht
   |true=>
    have a2:=V.at b7 (by simp);simp only[L34_2,zS,ld_rsW b8,hI a2 rfl,if_true];refine u _ _ ?_ (aq (az a2) _ _);exact(c3.trans V).put (.inr dy) _ _
  obtain⟨bh,oh,p1,p2⟩:=hn_at (c:=ch) (S3.rh B) d2;rw[List.length_map]at p1;rw[d3]at p2;have hd:ad [] q q.drew:=(ad.refl _ _).drew;have i5:fR prog 32 (.pointer (some ⟨bh,oh,none⟩)) q.drew=some (.agg (bB (bO l s)).toArray):=p2;have h3:=S3.h;have i6:fR prog 37 (.pointer (some ⟨O,0+2,none⟩)) q.drew=some (.agg (dC s.op).toArray):=(pj Z).ldop;simp only[zS,ic,jf,lj,gS,ag,c9,f9,f0,h1,h2,fa_84_1,sh,sk1 h3,p1,i5,i6];constructor
  ·have cA:ad [] q (q.drew.alloc (.cells zRsA 35)):=hd.alloc _;refine(c_mMust (I3.an cA) Sm.wf dy _ _ _).mono ?_;rintro _ E ⟨rfl,V⟩;have b8:hp E q.drew.heap.size=some (.cells zRsA 35):=V.at (by rw[af,bX rfl]) (by simp);simp only[jk,jm,ac];rw[hI b8 rfl];exact a8 _ _ ((cA.trans V).put (.inr (cy _)) _ _) (aq (az b8) _ _) (cy _)
  ·refine(c_mMust (I3.an hd) Sm.wf dy _ _ _).mono ?_;rintro _ E ⟨rfl,V⟩;simp only[jk,jm,ac];have cB:=hd.trans V;have b8:hp (E.alloc (.cells zRsA 35)) E.heap.size=some (.cells zRsA 35):=by rw[af,bX rfl]
   rw[show(#[bS 0,bS 0,bS 0,bS 0,bS 0,bS 0,bS 0,bT 0]:Array Value)=zRsA from rfl,hI b8 rfl];exact a8 _ _ ((cB.alloc _).put (.inr cB.size) _ _) (aq (az b8) _ _) cB.size
theorem c_sfind(B:SkB W sk A Ah l)(i:l.length<=12)(a:top<=9223372036854775807){c:cP}(j:hY c=true):∀f:Nat,f<=800->FindC W sk A Ah cs ch l top c f
 |0,_,m,g,F,K,put,t,pv,w,_,_,_,_,_,_,_,b=>absurd b dy
 |f+1,r,m,g,F,K,put,t,pv,w,S,I,k,n,s,o,p,b=>by
  apply F34_ok;simp only[F34];refine(c_sOver dy (S.rs B) dy S.h S.li).mono ?_;rintro _ w1 ⟨rfl,d⟩;have e:=S.an d;have q:=e.h;unfold dQ;cases u:pY l put with
  |true=>
   simp only[zS,if_true];exact⟨pv,rfl,e,aO.bV d⟩
  |false=>
   simp only[zS,fa_84_0,iV,sk0 q,ff,if_false,Bool.false_eq_true];rw[List.range_eq_range'];exact l_sgo B i a j (c_sfind B i a j f dy) n dy dy dy l.length 0 t pv w1 e (I.an d) k (aO.bV d) p dy
end
theorem pr_max2{P:Program}{c:Array TypeId}{t:TypeId}{k:IntKind}{a b:Int}:ai P (Builtin.max_ c t #[.int k a,.int k b])=some (.int k (if b>a then b else a)):=aX λw=>by simp[Builtin.max_,Builtin.max2]
theorem rd_lt{w:World}{A:Option Addr}{cs:List Value}(h:ed w A cs)(a:cs≠ []){p:Addr}(hp:A=some p):p.block<w.heap.size:=by
 cases cs with
 |nil=>exact absurd rfl a
 |cons u cs=>
  obtain⟨q,b,c⟩:=h 0 u rfl;rw[hp]at b;cases b;have:=qt c;simpa [Addr.add]using this
def skH(A:Option Addr)(n cs:Nat)(hv:Value)(top:Int):Array Value:= #[.slice A n cs,hv,.slice none 0 0,bS 0,bS top,.bool false]
theorem skH_1{A:Option Addr}{n cs:Nat}{hv x:Value}{top:Int}:(skH A n cs hv top).setIfInBounds (0+1) x=skH A n cs x top:=rfl
def tx(l:List dR)(i:Nat):List eF:=(l.take i).map (bO l)
theorem handsTo_succ{l:List dR}{i:Nat}(a:i<l.length):tx l (i+1)=tx l i++ [bO l l[i]]:=by
 rw[tx,List.take_succ_eq_append_getElem a,List.map_append];rfl
section
variable{w:World}{A:Option Addr}{cs:Nat}{l:List dR}
theorem l_sFind{W0 Wb:World}{sk:Nat}(hl:l.length<=12)(J:ed W0 A (l.flatMap ji))(s:nL l=true){c:cP}(t:hY c=true){g3:Nat}{most:Int}(K:most<=9223372036854775807)(a3:sk<Wb.heap.size)(x:W0.heap.size<=sk)(h3:W0.heap.size<=g3)(a4:g3<sk)(a5:W0.heap.size<=Wb.heap.size):
  ∀(d i:Nat) (hv:Value) (w:World),ad [] W0 w->hp w sk=some (.cells (skH A l.length cs hv (max most 0)) 84)->hp w g3=some (.cells (dK c).toArray 25)->Wb.heap.size<=w.heap.size->
  w.ownsRow Wb.heap.size 32 5 hv i ((tx l i).flatMap bB)->i+d=l.length->
  P13_0 (.slice A l.length cs) (bU g3) (bU sk) (bS l.length) (bS i) w λv w'=>∃pv,v= .tuple #[pv,bS (dU c l most).2]/\sY w' pv (dU c l most).1/\ad [] W0 w':=by
 intro d;induction d with
 |zero=>
  intro i hv w z h o hb G L;apply L13_0_ok;have:¬((i:Int)<l.length):=dy;simp only[L13_0,zS,this,fW o];have M:i=l.length:=dy;subst M;refine(c_mLoose c w).mono ?_;rintro v w1 ⟨b,q⟩;rcases q with⟨C,_⟩|⟨_,g,F,rfl,I,hF⟩
  ·rw[t]at C;cases C
  simp only[jk,jm,zS];have H:=b.at h (by simp);have m:=eZ G b λk f=>by simp
  have ht:tx l l.length=l.map (bO l):=by rw[tx,List.take_length]
  rw[ht]at m;obtain⟨Ah,ch,rfl,O,P,_⟩:=aG m;have B:SkB w1 sk A Ah l:=⟨az H,J.an (z.trans b).below,λp hp Q hs=>by
    have:=rd_lt J (λh=>Q (by
     cases l with
     |nil=>rfl
     |cons a l=>simp[ji]at h)) hp
    omega,O,λp hp _ hs=>by have:=(P p hp).1;omega⟩
  have S:SkI w1 w1 sk A Ah cs ch l (.slice none 0 0) [] 0 (max most 0) false:=⟨aW.refl _ _,H,World.ownsRow_nil _ _ _ _⟩
  have T:tX l []<l.length+1:=by
   have:=List.countP_le_length (p:=λi:Nat=> !([]:List Int).contains (i:Int)) (l:=List.range l.length);rw[List.length_range]at this;unfold tX;omega
  refine(c_sfind B hl dy t (l.length+1) dy (oy c true) g F 0 [] 0 (.slice none 0 0) w1 S I (λk U h2=>by
   have:=hF k U;have hs:=az h;rcases h2 with h2|h2
   ·omega
   ·cases h2) ⟨wf_new t true,wn_new t true,rfl⟩ dy (by simp;omega) dy T).mono ?_
  rintro v w2 ⟨pv,rfl,S2,u2⟩;have j:ad [] W0 w2:=by
   have e:=z.trans b;refine⟨u2.aw.os.trans e.os,u2.aw.tape.trans e.tape,u2.aw.output.trans e.output,cQ e.size u2.aw.size,λk f hn=>?_⟩;rw[u2.aw.block k (cY f e.size) λhg=>by
    rcases hg with hg|hg
    ·omega
    ·cases hg]
   exact e.block k f hn
  have D:dU c l most=match dQ l (max most 0) (l.length+1) (oy c true) [] 0 with
   |(true,p,_,_)=>(p,0)
   |(false,_,_,true)=>([],11)
   |(false,_,_,false)=>([],10):=by rw[dU,bX ⟨t,s,hl⟩];all_goals rfl
  rw[D];clear D;generalize dQ l (max most 0) (l.length+1) (oy c true) [] 0=R at*;obtain⟨bb,p',t',mn⟩:=R;have h2:=S2.h;cases bb with
  |true=>
   simp only[zS,fa_84_2,aH,sk2 h2];exact⟨pv,rfl,S2.li,j⟩
  |false=>
   simp only[zS,fa_84_5,aB,sk5 h2];have nl:sY w2 (.slice none 0 0) []:=⟨none,0,rfl,λi L=>absurd L (by simp)⟩
   cases mn with
   |true=>
    simp only[zS];exact⟨_,rfl,nl,j⟩
   |false=>
    simp only[zS];exact⟨_,rfl,nl,j⟩
 |succ d ih=>
  intro i hv w z h o hb G L;apply L13_0_ok;have V:(i:Int)<l.length:=dy;have E:i<l.length:=dy;have hd:ad [] w w.drew:=(ad.refl _ _).drew;have H:ao (hp w sk) (0+1)=some hv:=by rw[h,aN];rfl
  simp only[L13_0,zS,V,fa_84_1,sh,H];refine mu (R:=λv _=>v= .agg (bB (tP l i)).toArray) ((c_oHandle (c:=cs) dy (J.an (z.trans hd).below) i).mono λ_ _ h=>h) λv w1 q b=>?_;subst q;have hq:tP l (i:Int)=bO l l[i]:=by rw[tP,bX s,nO E]
  rw[hq];have b:=hd.trans b;have m:=eZ G b λk f=>by simp
  have W:=b.at h (by simp);have X:=b.at o (by simp);refine ps_76 (λu hu=>by
   obtain⟨k,y,rfl⟩:=hnC_int [bO l l[i]] u (by simpa [bB]using hu);rfl) m dy (cQ hb b.size) λx' w2 Y g2 n2=>?_
  have Z:ad (eY hv) w1 w2:=(ad.refl _ _).grown g2 λk f=> .inl (by simpa using f);have nb:∀k,hv.ownBlock=some k->Wb.heap.size<=k:=λk f=>m6 G f;have r:=Z.at W λs=>by have:=nb sk (by simpa using s);omega
  have a1:=Z.at X λs=>by
   have:=nb g3 (by simpa using s);omega
  have a2:mX (hp w2 sk) (0+1+1)=true:=by rw[r,aT];exact cj (by show 0+1+1<=6;omega)
  have hx:x'.cells= #[x']/\x'.oneCell'=true:=by
   obtain⟨A8,a6,rfl,_⟩:=aG Y;exact⟨rfl,rfl⟩
  rw[fC sz_76 hx.1 hx.2 a2,r];simp only[ay,ar,skH_1,zS,aj,ap (n:=(i:Int)+1) dy dy];have j:ad [] W0 w2:=(z.trans b).grown g2 λk f=> .inr (by have:=nb k f;omega);have nx:∀k,x'.ownBlock=some k->k≠sk:=λk f=>by have:=m6 Y f;omega
  refine ih (i+1) x' _ (j.put (.inr x) _ _) (aq (az r) _ _) ?_ ?_ ?_ dy
  ·rw[bf,bY dy];exact a1
  ·exact cQ (cQ hb (cQ b.size Z.size)) (aW.put w2 sk _ _).size
  ·refine(aW.put w2 sk _ _).row ?_ nx;rw[handsTo_succ E,List.flatMap_append];simpa [bB]using Y
theorem c_Find(F:l.length<=1000)(u:ed w A (l.flatMap ji))(c:cP){most:Int}(e:most<=9223372036854775807):aa prog 13 [.agg (dK c).toArray,.slice A l.length cs,bS most] w λv w'=>∃pv,v= .tuple #[pv,bS (dU c l most).2]/\sY w' pv (dU c l most).1/\ad [] w w':=by
 apply F13_ok;simp only[F13,ak,au];generalize k:w.alloc _=w1;have C:ad [] w w1:=by rw[<- k];exact(ad.refl _ _).alloc _
 have x:hp w1 w.heap.size=some (.cells (dK c).toArray 25):=by rw[<- k,af,bX rfl]
 have G:w1.heap.size=w.heap.size+1:=by rw[<- k,ah]
 clear k;have n:∀w',sY w' (.slice none 0 0) []:=λw'=>⟨none,0,rfl,λi D=>absurd D (by simp)⟩
 simp only[fW x,ac];refine(c_layMay c w1).mono ?_;rintro _ w2 ⟨rfl,o⟩;have f:=C.trans o;cases y:hY c with
 |false=>
  have a:dU c l most=([],1):=by rw[dU,bY (by rw[y];simp)]
  rw[a];simp only[zS];exact⟨_,rfl,n _,f⟩
 |true=>
 simp only[zS];refine(c_RMay dy ⟨A,cs,rfl,u.an f.below⟩).mono ?_;rintro _ m ⟨rfl,p⟩;have b:=f.trans p;cases z:nL l with
 |false=>
  have a:dU c l most=([],1):=by rw[dU,bY (by rw[z];simp)]
  rw[a];simp only[zS];exact⟨_,rfl,n _,b⟩
 |true=>
 by_cases g:(12:Int)<l.length
 ·have a:dU c l most=([],1):=by rw[dU,bY dy]
  rw[a];simp only[zS,ff,g];exact⟨_,rfl,n _,b⟩
 have q:∀t:Int,ai prog (Instr.build 84 #[(0,.slice A l.length cs),(4,bS t)])=some (.agg (skH A l.length cs (.slice none 0 0) t)):=λt=>bd_84_0_4;have r:(if(0:Int)>most then 0 else most)=max most 0:=by
  by_cases h:(0:Int)>most
  ·rw[bX h,Int.max_eq_right dy]
  ·rw[bY h,Int.max_eq_left dy]
 simp only[zS,ff,g,pr_max2,r,q,au];generalize d:m.alloc _=j;have B:ad [] m j:=by rw[<- d];exact(ad.refl _ _).alloc _
 have E:hp j m.heap.size=some (.cells (skH A l.length cs (.slice none 0 0) (max most 0)) 84):=by rw[<- d,af,bX rfl]
 have H:j.heap.size=m.heap.size+1:=by rw[<- d,ah]
 clear d;have s:=(o.trans (p.trans B)).at x (by simp);have:=b.size;have:=(o.trans p).size;exact l_sFind (W0:=w) (Wb:=j) dy u z y e dy dy (cy _) dy dy l.length 0 _ j (b.trans B) E s (cy _) (World.ownsRow_nil _ _ _ _) dy
end
section
variable{W w:World}{A:Option Addr}{c:Nat}{put:List Int}
theorem l_fHas(l:rr .i64 w A put)(s:put.length<=100000)(x:Int):∀(d i:Nat),i+d=put.length->(∀ j,j<i->put[j]? ≠some x)->P155_0 (.slice A put.length c) (bS x) (bS i) w λv w'=>v= .bool (put.contains x)/\w'=w:=by
 intro d;induction d with
 |zero=>
  intro i m a;apply L155_0_ok;have:¬((i:Int)<put.length):=dy;simp only[L155_0,aK,zS,this];refine⟨?_,trivial⟩;have:put.contains x=false:=by
   cases h:put.contains x with
   |false=>rfl
   |true=>
    obtain⟨j,b⟩:=dr (List.contains_iff_mem.1 h);have:=(ce.1 b).1;exact absurd b (a j dy)
  rw[this]
 |succ d o=>
  intro i m a;apply L155_0_ok;have e:(i:Int)<put.length:=dy;have f:i<put.length:=dy;obtain⟨y,g⟩:∃y,put[i]? =some y:=⟨_,bZ f⟩
  obtain⟨q,p,r⟩:=int_at (c:=c) l g;simp only[L155_0,aK,zS,e,p,r];by_cases h:y=x
  ·simp only[h,zS];refine⟨?_,trivial⟩;have:put.contains x=true:=List.contains_iff_mem.2 (cD (h▸g));rw[this]
  ·simp only[bn h,zS,aj,ap (n:=(i:Int)+1) dy dy];refine o (i+1) dy λj b k=>?_;rcases cZ j i with hj'|hj'
   ·exact a j hj' k
   ·have:j=i:=dy;subst this;rw[g]at k;exact h (Option.some.inj k)
theorem c_fHas{v:Value}(hv:sY w v put)(a:put.length<=100000)(x:Int):aa prog 155 [v,bS x] w λv w'=>v= .bool (put.contains x)/\w'=w:=by
 obtain⟨A,c,rfl,b⟩:=hv;apply F155_ok;exact l_fHas b a x put.length 0 dy λj d=>dy
def fA(A:Option Addr)(n cs:Nat)(left:Int)(mn:Bool):Array Value:= #[.slice A n cs,bS left,.bool mn]
section
variable{sk:Nat}{n cs:Nat}{left:Int}{mn:Bool}{l:List dR}{e:TypeId}
theorem fa0(h:hp w sk=some (.cells (fA A n cs left mn) e)):ao (hp w sk) (0+0)=some (.slice A n cs):=by rw[h,aN];rfl
theorem fa1(h:hp w sk=some (.cells (fA A n cs left mn) e)):ao (hp w sk) (0+1)=some (bS left):=by rw[h,aN];rfl
theorem fa2(h:hp w sk=some (.cells (fA A n cs left mn) e)):ao (hp w sk) (0+2)=some (.bool mn):=by rw[h,aN];rfl
theorem l_fWhole{v:Value}(F:l.length<=1000)(y:ed w A (l.flatMap ji))(z:put.length<=1000)(h:hp w sk=some (.cells (fA A l.length cs left mn) 123))(hv:sY w v put):∀(d k:Nat),k+d=l.length->
  (∀ j s,j<k->l[j]? =some s->(!(decide (0<=s.rs)&& !put.contains (j:Int)))=true)->P104_0 (bU sk) v (bS k) w λv w'=>v= .bool (pY l put)/\w'=w:=by
 intro d;induction d with
 |zero=>
  intro k B a;apply L104_0_ok;have:¬((k:Int)<l.length):=dy;simp only[L104_0,ae,lA,iV,fa0 h,ff,zS,this];refine⟨?_,trivial⟩;have:pY l put=true:=all_true λj q=>by
   rw[bZ q];exact a j l[j] dy (bZ q)
  rw[this]
 |succ d C=>
  intro k B a;apply L104_0_ok;have g:(k:Int)<l.length:=dy;have e:k<l.length:=dy;obtain⟨b,o,t,D⟩:=hJ (c:=cs) (j:= .i64) (i:=k) y e;have m:ao (hp w b) (o+11)=some (bS l[k].rs):=D.f 11 dy;have next:(!(decide (0<=l[k].rs)&& !put.contains (k:Int)))=true->P104_0 (bU sk) v (bS ((k:Int)+1)) w λv w'=>v= .bool (pY l put)/\w'=w:=λE=>
   C (k+1) dy λj s q r=>by
    rcases cZ j k with hj'|hj'
    ·exact a j s hj' r
    ·have:j=k:=dy;subst this;rw[bZ e]at r;cases r;exact E
  have u:=ap (n:=(k:Int)+1) dy dy;by_cases p:0<=l[k].rs
  ·simp only[L104_0,ae,lA,iV,fa0 h,ff,zS,g,t,gS,ag,m,p];refine(c_fHas hv dy (k:Int)).step ?_;cases x:put.contains (k:Int)with
   |true=>
    simp only[zS,aj,u];exact next (by rw[x];simp)
   |false=>
    simp only[zS];refine⟨?_,trivial⟩;have:pY l put=false:=all_false e (by rw[bZ e];simp only[x,cj p];rfl);rw[this]
  ·simp only[L104_0,ae,lA,iV,fa0 h,ff,zS,g,t,gS,ag,m,p,aj,u];exact next (by simp[p])
theorem c_fWhole{v:Value}(b:l.length<=1000)(c:ed w A (l.flatMap ji))(a:put.length<=1000)(h:hp w sk=some (.cells (fA A l.length cs left mn) 123))(hv:sY w v put):aa prog 104 [bU sk,v] w λv w'=>v= .bool (pY l put)/\w'=w:=by
 apply F104_ok;exact l_fWhole b c a h hv l.length 0 dy λj s d=>dy
end
end
section
variable{W w:World}{A:Option Addr}{c:Nat}{put:List Int}{sk:Nat}{n cs:Nat}{left:Int}{mn:Bool}{l:List dR}{e:TypeId}
theorem l_fMay{v:Value}(Q:l.length<=1000)(I:ed W A (l.flatMap ji))(J:put.length<=1000){i:Nat}(z:i<l.length)(B:put.contains (i:Int)=false):∀(d k:Nat) (w:World),ad [] W w->hp w sk=some (.cells (fA A l.length cs left mn) 123)->sY w v put->k+d=l.length->
  (∀ j a,j<k->l[j]? =some a->(!(decide (0<=a.rs)&&(!put.contains (j:Int)&&ahead a l[i])))=true)->P105_0 (bU sk) v (bS i) (bS k) w λv w'=>v= .bool (kq l put i)/\ad [] W w':=by
 intro d;induction d with
 |zero=>
  intro k w p h hv K e;apply L105_0_ok;have:¬((k:Int)<l.length):=dy;simp only[L105_0,ae,lA,iV,fa0 h,ff,zS,this];refine⟨?_,p⟩;have:kq l put i=true:=by
   unfold kq;rw[B,all_true λj hj=>?_]
   ·rfl
   rw[bZ hj,bZ z];exact e j l[j] dy (bZ hj)
  rw[this]
 |succ d L=>
  intro k w p h hv K e;apply L105_0_ok;have q:(k:Int)<l.length:=dy;have g:k<l.length:=dy;have r:ad [] w w.drew:=(ad.refl _ _).drew;have t:=I.an (p.trans r).below;obtain⟨b,o,C,G⟩:=hJ (c:=cs) (j:= .i64) (i:=k) t g;obtain⟨R,o',M,O⟩:=hJ (c:=cs) (j:= .i64) (i:=i) t z;have u:ao (hp w b) (o+11)=some (bS l[k].rs):=G.f 11 dy;have D:sY w.drew v put:=hv.an r.below;have next:(!(decide (0<=l[k].rs)&&(!put.contains (k:Int)&&ahead l[k] l[i])))=true->∀w2,ad [] w w2->P105_0 (bU sk) v (bS i) (bS ((k:Int)+1)) w2 λv w'=>v= .bool (kq l put i)/\ad [] W w':=λP w2 m=>
   L (k+1) w2 (p.trans m) (m.at h (by simp)) (hv.an m.below) dy λj s hj E=>by
    rcases cZ j k with hj'|hj'
    ·exact e j s hj' E
    ·have:j=k:=dy;subst this;rw[bZ g]at E;cases E;exact P
  have F:=ap (n:=(k:Int)+1) dy dy;by_cases y:0<=l[k].rs
  ·simp only[L105_0,ae,lA,iV,qu,fa0 h,ff,zS,q,C,gS,ag,u,y];refine(c_fHas D dy (k:Int)).step ?_;cases H:put.contains (k:Int)with
   |true=>
    simp only[zS,aj,F];exact next (by rw[H];simp) _ r
   |false=>
    simp only[zS,lA,iV,fa0 h,C,M,G.ld,O.ld];refine(uk l[k] l[i] w.drew).mono ?_;rintro _ w2 ⟨rfl,m⟩;have m:=r.trans m;cases x:ahead l[k] l[i]with
    |true=>
     simp only[zS];refine⟨?_,p.trans m⟩;have:kq l put i=false:=by
      unfold kq;rw[all_false g (by rw[bZ g,bZ z];simp only[H,x,cj y];rfl),Bool.false_and]
     rw[this]
    |false=>
     simp only[zS,aj,F];exact next (by rw[x];simp) _ m
  ·simp only[L105_0,ae,lA,iV,qu,fa0 h,ff,zS,q,C,gS,ag,u,y,aj,F];exact next (by simp[y]) _ r
theorem c_fMay{v:Value}(c:l.length<=1000)(d:ed w A (l.flatMap ji))(a:put.length<=1000)(h:hp w sk=some (.cells (fA A l.length cs left mn) 123))(hv:sY w v put){i:Nat}(e:i<l.length):aa prog 105 [bU sk,v,bS i] w λv w'=>v= .bool (kq l put i)/\ad [] w w':=by
 apply F105_ok;simp only[F105];refine(c_fHas hv dy (i:Int)).step ?_;cases b:put.contains (i:Int)with
 |true=>
  simp only[zS];refine⟨?_,ad.refl _ _⟩;have:kq l put i=false:=by unfold kq;rw[b];simp
  rw[this]
 |false=>
  simp only[zS];exact l_fMay c d a e b l.length 0 w (ad.refl _ _) h hv dy λj s f=>dy
end
theorem l_SameInts{xs a:List Int}(x:xs.length<=4611686018427387904)(u:xs.length=a.length){A B:Option Addr}{c d:Nat}(w0:World):∀(e i:Nat) (w:World),rr .i64 w A xs->rr .i64 w B a->Below w0.heap.size w0 w->
  (∀ j,j<i->xs.getD j 0=a.getD j 0)->i+e=xs.length->P31_0 (.slice A xs.length c) (.slice B a.length d) (bS i) w λv w'=>v= .bool (decide (xs=a))/\Below w0.heap.size w0 w'
 |0,i,w,g,k,hb,l,y=>by
  apply L31_0_ok;have:¬((i:Int)<xs.length):=dy;have m:xs=a:=List.ext_getElem u λj b z=>by
   have:=l j dy;simpa [cu,b,z]using this
  simp only[L31_0,aK,zS,this];exact⟨by simp[m],hb⟩
 |e+1,i,w,g,k,hb,l,y=>by
  apply L31_0_ok;have f:(i:Int)<xs.length:=dy;obtain⟨q,o,p⟩:=(g.drew).at (P:=prog) (c:=c) (j:= .i64) underlying22 Tryz.underlying3 aE (i:=(i:Int)) dy f;obtain⟨r,s,t⟩:=(k.drew).at (P:=prog) (c:=d) (j:= .i64) underlying22 Tryz.underlying3 aE (i:=(i:Int)) dy dy;simp only[L31_0,aK,zS,f,o,p,s,t,cq,aj,ap (n:=(i:Int)+1) dy dy];by_cases b:xs.getD i 0=a.getD i 0
  ·simp only[b,zS];have:=l_SameInts (c:=c) (d:=d) x u w0 e (i+1) _ g.drew k.drew hb.drew (λj C=>by
    rcases cZ j i with h|h
    ·exact l j h
    ·rw[show j=i by omega];exact b) dy
   rw[db i 1]at this;exact this
  ·simp only[bne_iff_ne.2 b,zS];refine⟨?_,hb.drew⟩;have:xs≠a:=λh=>b (by rw[h]);simp[this]
theorem c_SameInts{xs a:List Int}(i:xs.length<=4611686018427387904){u v:Value}{w:World}(b:sY w u xs)(e:sY w v a):aa prog 31 [u,v] w λr w'=>r= .bool (decide (xs=a))/\Below w.heap.size w w':=by
 obtain⟨A,c,rfl,b⟩:=b;obtain⟨B,d,rfl,e⟩:=e;apply F31_ok;by_cases f:xs.length=a.length
 ·have g:((xs.length:Int)!=a.length)=false:=by rw[f];simp
  simp only[F31,aK,zS,g];exact l_SameInts i f w xs.length 0 w b e (Below.refl _ _) (λj k=>dy) dy
 ·have g:((xs.length:Int)!=a.length)=true:=by rw[bne_iff_ne];omega
  simp only[F31,aK,zS,g];have:xs≠a:=λh=>f (by rw[h]);exact⟨by simp[this],Below.refl _ _⟩
theorem must_no{m:dv}{c:cP}{K:Nat}(s:StO m c K){w:Int}{o:ez}{h:eF}(hn:jz o=false\/c.1<=w):(dI m w o h).2=false:=by
 have a:jQ m w o=false:=by
  have:=s.wn.cw;rw[s.mc]at this;rcases hn with hn|hn
  ·simp[jQ,hn]
  ·have:¬w<m.hands.length:=dy;simp[jQ,this]
 rw[dI,bX a]
theorem resV_no{l:List dR}{m:dv}{c:cP}{K:Nat}(S:StO m c K){s:dR}(a:s.rs<0/\s.pt<0)(b:jz s.op=false\/c.1<=s.wk):po l m s=none:=by
 rw[po,bX a,bY (by rw[must_no S b];simp)]
section
variable{W w Wi:World}{g g3 b5:Nat}{x:tL}{F:Fp}{K:Value->World->Prop}{A:Option Addr}{c:Nat}
theorem cp_ints{L:List Int}(a:L.length<=1000000)(d:ed w A (ints L))(e:∀v w',eP L w' (λb=>v.ownBlock=some b) v->(∀ k,v.ownBlock=some k->w.heap.size<=k)->ad [] w w'->K v w'):
  dF prog (Builtin.append_ #[22,22] 22 #[.slice none 0 0,.slice A L.length c]) w K:=by
 obtain⟨i,f,g,j,hb⟩:=mR;exact qR underlying22 f g j rfl dy (by simp[ints]) d (ints_int L) a dy e
theorem cp_objs{L:List eF}(a:L.length<=1000000)(d:ed w A (L.flatMap bB))(e:∀v w',lH L w' (λb=>v.ownBlock=some b) v->(∀ k,v.ownBlock=some k->w.heap.size<=k)->ad [] w w'->K v w'):
  dF prog (Builtin.append_ #[76,76] 76 #[.slice none 0 0,.slice A L.length c]) w K:=by
 obtain⟨i,f,g,j,hb⟩:=inf_32;exact qR Tryz.underlying76 f g j rfl dy (bN oW L) d (hnC_int L) a dy e
theorem cp_word{L:List Int}(a:L.length<=1000000)(d:ed w A (fE L))(e:∀v w',jA L w' (λb=>v.ownBlock=some b) v->(∀ k,v.ownBlock=some k->w.heap.size<=k)->ad [] w w'->K v w'):
  dF prog (Builtin.append_ #[139,139] 139 #[.slice none 0 0,.slice A L.length c]) w K:=by
 obtain⟨i,f,g,j,hb⟩:=inf_33;exact qR Tryz.underlying139 f g j rfl dy (by simp[fE]) d (sr L) a dy e
theorem cp_keys{L:List iD}(a:L.length<=1000000)(d:ed w A (L.flatMap gD))(e:∀v w',nq L w' (λb=>v.ownBlock=some b) v->(∀ k,v.ownBlock=some k->w.heap.size<=k)->ad [] w w'->K v w'):
  dF prog (Builtin.append_ #[161,161] 161 #[.slice none 0 0,.slice A L.length c]) w K:=by
 obtain⟨i,f,g,j,hb⟩:=inf_256;exact qR Tryz.underlying161 f g j rfl dy (bN mE L) d (qD L) a dy e
theorem parts_rr{p:eO×Bool}{xs:List Value}{b:Nat->Fp}(h:fu w (rrT p) xs b):∃c wv ov,xs=(ru p c wv ov).toList:=by
 have a:=h.len;rw[nI]at a;match xs,a,h with
 | [a0,a1,a2,a3,a4,a5,a6,a7],_,h=>
  have d:=(h.each 0 _ _ rfl rfl).1;have e:=(h.each 1 _ _ rfl rfl).1;have f:=(h.each 2 _ _ rfl rfl).1;have g:=(h.each 3 _ _ rfl rfl).1;have i:=(h.each 4 _ _ rfl rfl).1;exact⟨a5,a6,a7,by rw[d,e,f,g,i];rfl⟩
def rrF(a b c:Fp)(k:Nat):Fp:=if k=5 then a else if k=6 then b else if k=7 then c else ck
theorem rr_parts{p:eO×Bool}{g wv ov:Value}{d e f:Fp}(q:eP p.1.chunks w d g)(r:eG p.1.words w e wv)(s:lH p.1.objs w f ov)(i:oj d e)(l:oj d f)(m:oj e f):
  fu w (rrT p) (ru p g wv ov).toList (rrF d e f):=by
 refine⟨rfl,λk P v n hv=>?_,λj k C o t=>?_⟩
 ·have o:=(ce.1 n).1;rw[nI]at o;have u:k=0\/k=1\/k=2\/k=3\/k=4\/k=5\/k=6\/k=7:=dy;rcases u with rfl|rfl|rfl|rfl|rfl|rfl|rfl|rfl<;>cases n<;>cases hv
  ·exact⟨rfl,λ_ h=>h⟩
  ·exact⟨rfl,λ_ h=>h⟩
  ·exact⟨rfl,λ_ h=>h⟩
  ·exact⟨rfl,λ_ h=>h⟩
  ·exact⟨rfl,λ_ h=>h⟩
  ·exact q
  ·exact r
  ·exact s
 ·intro b a c;unfold rrF at a c;by_cases x:j=5<;>by_cases y:j=6<;>by_cases z:j=7<;>by_cases b5:k=5<;>by_cases A:k=6<;>by_cases B:k=7<;>
   first
   |omega
   |(simp only[x,y,z,b5,A,B,if_true,if_false,Nat.reduceEqDiff]at a c
     first
     |exact a.elim
     |exact c.elim
     |exact i b a c
     |exact i b c a
     |exact l b a c
     |exact l b c a
     |exact m b a c
     |exact m b c a)
theorem ld_rr8{b:Nat}{cs:Array Value}{e:TypeId}(a:cs.size=8)(hb:hp w b=some (.cells cs e)):fR prog 250 (bU b) w=some (.agg cs):=aR (t:=250) ag_250 (by rw[sz_250,a]) hb
theorem words_at{L:List (List Int)}{wv:Value}(h:∃F,eG L w F wv){k:Nat}{l:List Int}(e:L[k]? =some l):∃b c A a,wv= .slice (some ⟨b,0,none⟩) L.length c/\ao (hp w b) k=some (.slice A l.length a)/\ed w A (fE l):=by
 obtain⟨F,h⟩:=h;obtain⟨b,c,v,f,g,_,_,_,d,hv,_⟩:=aL.cell h (λP i=>by obtain⟨l,_,rfl⟩:=List.mem_map.1 i;exact ga l) (k:=k) (P:=jA l) (by rw[cM,e];rfl);obtain⟨A,a,rfl,j⟩:=gC ⟨f,hv⟩;exact⟨b,c,A,a,g,d,j⟩
theorem one_parts{P:Th}{v:Value}{b:Fp}(h:P w b v):fu w [P] [v] (λ_=>b):=⟨rfl,λk Q u c d=>by
  have a:=(ce.1 c).1;have:k=0:=by simp at a;omega
  subst this;cases c;cases d;exact h,λj k e a f=>by simp at e a;omega⟩
theorem under1{a:Fp}(b:Nat):a b<->under 1 (λ_=>a) b:=⟨λh=>⟨0,dy,h⟩,fun⟨_,_,h⟩=>h⟩
def CpQ(W:World)(x:tL)(v:Value)(w':World):Prop:=∃g3 a,v=bU g3/\iR w' g3 x a/\(∀ k,a k->W.heap.size<=k)/\ad [] W w'
def cp0(x:tL)(i:Nat):tL:={x with rgs:=x.rgs.take i,holds:= []}
def cp2(x:tL)(i:Nat):tL:={x with holds:=x.holds.take i}
def cutW(p:eO×Bool)(k:Nat):eO×Bool:=({p.1 with words:=p.1.words.take k},p.2)
theorem cutW_all(p:eO×Bool):cutW p p.1.words.length=p:=by simp[cutW]
theorem rrT_w(p:eO×Bool)(k a:Nat):(rrT (cutW p k)).set 6 (eG (p.1.words.take a))=rrT (cutW p a):=rfl
structure CpB(x:tL):Prop where
 r:x.rgs.length<=1000000
 c:∀p∈x.rgs,p.1.chunks.length<=1000000/\p.1.words.length<=1000000/\p.1.objs.length<=1000000/\∀l∈p.1.words,l.length<=1000000
 s:x.state.length<=1000000
 g:x.gen.length<=1000000
 d:x.depth.length<=1000000
 h:x.holds.length<=1000000
 k:∀l∈x.holds,l.length<=1000000
theorem l_rCopy1(I:iR W g x F)(B:CpB x){i:Nat}{p:eO×Bool}(hi:x.rgs[i]? =some p){F3:Fp}(C:iR Wi g3 (cp0 x i) F3)(cW:ad [] W Wi)(n3:∀k,F3 k->W.heap.size<=k)
  (next:∀(w:World) (F3:Fp),ad [] W w->iR w g3 (cp0 x (i+1)) F3->(∀ k,F3 k->W.heap.size<=k)->P108_0 (bU g) (bU g3) (bS ((i:Int)+1)) w (CpQ W x)):
  ∀(d k:Nat) (w:World) (F5:Fp),ad [] Wi w->dV 250 b5 (rrT (cutW p k)) w F5->(∀ j,F5 j->Wi.heap.size<=j)->k+d=p.1.words.length->
   P108_1 (bU g) (bU g3) (bS i) (bU b5) (bS k) w (CpQ W x):=by
 have a1:=(ce.1 hi).1;obtain⟨bc,bw,bo,bl⟩:=B.c p (cD hi);have br:=B.r;intro d;induction d with
 |zero=>
  intro k w F5 H D n5 t;have b3:k=p.1.words.length:=dy;subst b3;rw[cutW_all]at D;apply L108_1_ok;have J:=cW.trans H;obtain⟨s,gn,r,dd,h,R⟩:=(I.an J).rd;obtain⟨Fr,K⟩:=R.rT;obtain⟨b,c,rfl,cv,wv,ov,Q⟩:=tM K hi;obtain⟨Fw,b4⟩:=Q.wT;obtain⟨Aw,d9,xw,e1,rfl,_⟩:=aL.rd b4;have ia:=qO (b:=b) (c:=c) a1;have L:¬((p.1.words.length:Int)<p.1.words.length):=dy;have Z:ad [] w w.drew:=(ad.refl _ _).drew;obtain⟨xs,Fs,hb,f,e2,hF⟩:=D;obtain⟨M,O,S,rfl⟩:=parts_rr f;have b6:hp w b5=some (.cells (ru p M O S) 250):=by rw[hb]
  obtain⟨v9,Fk,v,b7,b8,b9,y⟩:=dV.repl C (fm _) (k:=9) (P:=qI (x.rgs.take i)) rfl;have a2:ao (hp w g3) (0+9)=some v9:=bu H b8;have a3:=(sD (x.rgs.take i)).frame b9 (aW.bV (H.trans Z) ck) λ_ _ h=>h;obtain⟨ys,c1,T,q2,q3,q4⟩:=a3;have a4:(x.rgs.take i).length=i:=by rw[List.length_take];omega
  have c3:fR prog 250 (bU b5) w.drew=some (.agg (ru p M O S)):=ld_rr8 (w:=w.drew) rfl b6;have a5:∀u∈(ru p M O S).toList,u.oneCell'=true:=λu hu=>by
   obtain⟨j,hj⟩:=dr hu;have c5:=(ce.1 hj).1;obtain⟨P,hP⟩:∃P,(rrT p)[j]? =some P:=⟨_,bZ (by rw[nI];exact c5)⟩
   exact((qJ p P (cD hP)).one (f.each j P u hP hj)).2
  simp only[L108_1,ae,zS,aS,jx,bv,od,R.rl,ia,Q.c6,len_97,L,a2,c3];have z:=T;rw[a4]at z;refine ps_179 a5 z dy (cX _) λy' U ho hg V=>?_;have X:ad [] Wi w.drew:=H.trans Z;have c7:=f.frame (qJ p) (aW.bV Z ck) (λ_ _ h=>h);obtain⟨F9,z1,z2,E⟩:=aL.grow (G:=under (rrT p).length Fs) (m:=1) ⟨ys,c1,T,q2,q3,q4⟩ (im _) (qJ p) c7 (λb=>Iff.rfl) (λk h1 h2=>by
   have a:=dV.lt C (fm _) k (v k h1);have b:=n5 k ((hF k).2 (.inr h2));omega) (λc8 h'=>by rw[kM h' T,a4];exact ho) hg V
  have u9:aO Fk F9 Wi U:=by
   refine⟨⟨E.os.trans X.os,E.tape.trans X.tape,E.output.trans X.output,cQ X.size E.size,λk t hn=>(E.block k (cY t X.size) hn).trans (X.block k t (by simp))⟩,λk t=>?_⟩;rcases z2.sub k t with h|h
   ·rcases h with h|h
    ·exact .inl h
    ·exact .inr (n5 k ((hF k).2 (.inr h)))
   ·exact .inr (cQ X.size h)
  have Y:qI (x.rgs.take (i+1)) U F9 y':=by
   have e:x.rgs.take (i+1)=x.rgs.take i++ [p]:=by rw[List.take_add_one,hi];rfl
   rw[qI,e,cJ,List.flatMap_append];simpa using z1
  obtain⟨ok,o1,o2,_,F4,t1,t2⟩:=y U F9 (qI (x.rgs.take (i+1))) y' u9 (sD _) Y;rw[st_179 (o:=0+9) o1 o2 ok];simp only[aj,ap (n:=(i:Int)+1) dy dy,ac];exact next _ F4 (sI cW t2 n3) t1 (sJ cW t2 n3)
 |succ d ih=>
  intro k w F5 H D n5 t;apply L108_1_ok;have J:=cW.trans H;have Z:ad [] w w.drew:=(ad.refl _ _).drew;obtain⟨s,gn,r,dd,h,R⟩:=(I.an J).rd;obtain⟨Fr,K⟩:=R.rT;obtain⟨b,c,rfl,cv,wv,ov,Q⟩:=tM K hi;have c9:k<p.1.words.length:=dy;obtain⟨l,hl⟩:∃l,p.1.words[k]? =some l:=⟨_,bZ c9⟩
  obtain⟨b',c',A,cl,rfl,d1,d2⟩:=words_at Q.wT hl;have ia:=qO (b:=b) (c:=c) a1;have iw:=ia_97 (b:=b') (p:=0) (n:=p.1.words.length) (c:=c') (j:= .i64) (i:=(k:Int)) dy dy;rw[cq,cV,dm]at iw;have L:(k:Int)<p.1.words.length:=dy;obtain⟨v6,Fk,v,b7,d3,d4,y⟩:=dV.repl D (qJ _) (k:=6) (P:=eG (p.1.words.take k)) rfl;have a6:ao (hp w b5) (0+6)=some v6:=d3;have e3:=bl l (cD hl);have a7:ed w.drew A (fE l):=d2.an Z.below;simp only[L108_1,ae,zS,aS,jx,bv,od,jc,R.rl,ia,Q.c6,len_97,L,a6,iw,d1];refine cp_word dy a7 λe4 w2 a8 a9 c2=>?_;obtain⟨d5,d6,rfl,_⟩:=gC ⟨_,a8⟩;have q:=Z.trans c2;have b1:=(fJ _).frame d4 (aW.bV q ck) λ_ _ h=>h;obtain⟨ys,d7,T,q2,q3,q4⟩:=b1;have b2:(p.1.words.take k).length=k:=by rw[List.length_take];omega
  have z:=T;rw[b2]at z;refine ps_97 (by simp) z dy (cX _) λy' U ho hg V=>?_;obtain⟨F6,z1,z2,E⟩:=aL.grow (G:=λb=>(Value.slice d5 l.length d6).ownBlock=some b) (m:=1) ⟨ys,d7,T,q2,q3,q4⟩ (λP hP=>by obtain⟨l,_,rfl⟩:=List.mem_map.1 hP;exact ga l) (λP hP=>by rw[dh.1 hP];exact ga _) (one_parts a8)
   under1 (λk h1 h2=>by
    have a:=dV.lt D (qJ _) k (v k h1);have b:=a9 k h2;have:w.drew.heap.size=w.heap.size:=rfl;omega) (λc8 h'=>by rw[kM h' T,b2];exact ho) hg V
  have u6:aO Fk F6 w U:=by
   refine⟨⟨E.os.trans q.os,E.tape.trans q.tape,E.output.trans q.output,cQ q.size E.size,λk t hn=>(E.block k (cY t q.size) hn).trans (q.block k t (by simp))⟩,λk t=>?_⟩;rcases z2.sub k t with h|h
   ·rcases h with h|h
    ·exact .inl h
    ·exact .inr (a9 k h)
   ·exact .inr (cQ q.size h)
  have Y:eG (p.1.words.take (k+1)) U F6 y':=by
   have e:p.1.words.take (k+1)=p.1.words.take k++ [l]:=by rw[List.take_add_one,hl];rfl
   rw[eG,e,cJ,List.map_append];exact z1
  obtain⟨ok,o1,o2,_,d8,t1,t2⟩:=y U F6 (eG (p.1.words.take (k+1))) y' u6 (fJ _) Y;rw[st_97 (o:=0+6) o1 o2 ok];rw[rrT_w]at t1;simp only[aj,ap (n:=(k:Int)+1) dy dy,ac];have:=ih (k+1) _ d8 (sI H t2 n5) t1 (sJ H t2 n5) dy;rw[db k 1]at this;exact this
end
section
variable{W w Wi:World}{g g3 b5:Nat}{x:tL}{F:Fp}
theorem rgA_5{p:eO×Bool}{a b c v:Value}:(ru p a b c).setIfInBounds (0+5) v=ru p v b c:=rfl
theorem rgA_6{p:eO×Bool}{a b c v:Value}:(ru p a b c).setIfInBounds (0+6) v=ru p a v c:=rfl
theorem rgA_7{p:eO×Bool}{a b c v:Value}:(ru p a b c).setIfInBounds (0+7) v=ru p a b v:=rfl
theorem l_rCopy2(I:iR W g x F)(B:CpB x):∀(d i:Nat) (w:World) (F3:Fp),ad [] W w->iR w g3 (cp2 x i) F3->(∀ k,F3 k->W.heap.size<=k)->i+d=x.holds.length->
  P108_2 (bU g) (bU g3) (bS i) w (CpQ W x):=by
 have bh:=B.h;intro d;induction d with
 |zero=>
  intro i w F3 cW C O hi;apply L108_2_ok;obtain⟨s,gn,r,dd,h,R⟩:=(I.an cW).rd;obtain⟨Fh,q⟩:=R.hT;obtain⟨Ah,ch,xh,a4,rfl,_⟩:=aL.rd q;have t:¬((i:Int)<x.holds.length):=dy;simp only[L108_2,ae,zS,lD,qA,R.hl,len_180,t];have e:cp2 x i=x:=by rw[cp2,List.take_of_length_le dy]
  rw[e]at C;exact⟨g3,F3,rfl,C,O,cW⟩
 |succ d ih=>
  intro i w F3 cW C O hi;apply L108_2_ok;have cd:ad [] w w.drew:=(ad.refl _ _).drew;obtain⟨s,gn,r,dd,h,R⟩:=(I.an cW).rd;obtain⟨Fh,q⟩:=R.hT;have Q:i<x.holds.length:=dy;obtain⟨l,S⟩:∃l,x.holds[i]? =some l:=⟨_,bZ Q⟩
  obtain⟨b,c,v,rfl,hv,u⟩:=hold_at q S;obtain⟨A,cl,rfl,hR⟩:=gC u;have ia:=ia_180 (b:=b) (p:=0) (n:=x.holds.length) (c:=c) (j:= .i64) (i:=(i:Int)) dy dy;rw[cq,cV,dm]at ia;have t:(i:Int)<x.holds.length:=dy;obtain⟨v9,Fk,y,a5,T,U,z⟩:=dV.repl C (fm _) (k:=11) (P:=mr (x.holds.take i)) rfl;have D:ao (hp w g3) (0+11)=some v9:=T;have a6:=B.k l (cD S);have V:ed w.drew A (l.flatMap gD):=hR.an cd.below;simp only[L108_2,ae,zS,lD,qA,kJ,R.hl,ia,len_180,t,D,hv];refine cp_keys dy V λa7 w2 E H c2=>?_;obtain⟨X,Y,rfl,_⟩:=gC ⟨_,E⟩;have f:=cd.trans c2;have J:=(qK _).frame U (aW.bV f ck) λ_ _ h=>h;obtain⟨ys,Z,q1,q2,q3,q4⟩:=J;have K:(x.holds.take i).length=i:=by rw[List.length_take];omega
  have L:=q1;rw[K]at L;refine ps_180 (by simp) L dy (cX _) λy' w4 ho hg a1=>?_;obtain⟨F6,z1,z2,M⟩:=aL.grow (G:=λb=>(Value.slice X l.length Y).ownBlock=some b) (m:=1) ⟨ys,Z,q1,q2,q3,q4⟩ (oX _) (λP hP=>by rw[dh.1 hP];exact good_keys _) (one_parts E)
   under1 (λk h1 h2=>by
    have a:=dV.lt C (fm _) k (y k h1);have b:=H k h2;have:w.drew.heap.size=w.heap.size:=rfl;omega) (λa8 h'=>by rw[kM h' q1,K];exact ho) hg a1
  have u6:aO Fk F6 w w4:=by
   refine⟨⟨M.os.trans f.os,M.tape.trans f.tape,M.output.trans f.output,cQ f.size M.size,λk u hn=>(M.block k (cY u f.size) hn).trans (f.block k u (by simp))⟩,λk u=>?_⟩;rcases z2.sub k u with h|h
   ·rcases h with h|h
    ·exact .inl h
    ·exact .inr (H k h)
   ·exact .inr (cQ f.size h)
  have a2:mr (x.holds.take (i+1)) w4 F6 y':=by
   have e:x.holds.take (i+1)=x.holds.take i++ [l]:=by rw[List.take_add_one,S];rfl
   rw[mr,e,cJ,List.map_append];exact z1
  obtain⟨ok,o1,o2,_,a3,t1,t2⟩:=z w4 F6 (mr (x.holds.take (i+1))) y' u6 (qK _) a2;rw[st_180 (o:=0+11) o1 o2 ok];simp only[aj,ap (n:=(i:Int)+1) dy dy,ac];have:=ih (i+1) _ a3 (sI cW t2 O) t1 (sJ cW t2 O) dy;rw[db i 1]at this;exact this
theorem l_rCopy0(I:iR W g x F)(B:CpB x):∀(d i:Nat) (w:World) (F3:Fp),ad [] W w->iR w g3 (cp0 x i) F3->(∀ k,F3 k->W.heap.size<=k)->i+d=x.rgs.length->
  P108_0 (bU g) (bU g3) (bS i) w (CpQ W x):=by
 have br:=B.r;intro d;induction d with
 |zero=>
  intro i w F3 cW C U hi;apply L108_0_ok;obtain⟨s,gn,r,dd,h,R⟩:=(I.an cW).rd;obtain⟨Fr,y⟩:=R.rT;obtain⟨Ah,ch,xh,a8,rfl,_⟩:=aL.rd y;have z:¬((i:Int)<x.rgs.length):=dy;simp only[L108_0,ae,zS,aS,bv,R.rl,nE,z];have e:cp0 x i=cp2 x 0:=by rw[cp0,cp2,List.take_of_length_le dy];rfl
  rw[e]at C;exact l_rCopy2 I B x.holds.length 0 w F3 cW C U dy
 |succ d ih=>
  intro i w F3 cW C U hi;apply L108_0_ok;obtain⟨s,gn,r,dd,h,R⟩:=(I.an cW).rd;obtain⟨Fr,y⟩:=R.rT;have L:i<x.rgs.length:=dy;obtain⟨p,A⟩:∃p,x.rgs[i]? =some p:=⟨_,bZ L⟩
  obtain⟨bc,bw,bo,bl⟩:=B.c p (cD A);obtain⟨b,c,rfl,cv,wv,ov,Q⟩:=tM y A;obtain⟨Ac,cc,rfl,V⟩:=gC Q.cT;obtain⟨E,G,rfl,X⟩:=gC Q.oT;obtain⟨Fw,Y⟩:=Q.wT;obtain⟨q,t,xw,a9,rfl,_⟩:=aL.rd Y;have ia:=qO (b:=b) (c:=c) L;have z:(i:Int)<x.rgs.length:=dy;simp only[L108_0,ae,zS,aS,bv,R.rl,ia,nE,z,ld_rg Q,al_250];rw[st_250 (by rfl) (by rfl) (by rw[af,bX rfl];rfl) (by rw[af,bX rfl];rfl),af,bX rfl,ar];generalize l:put (w.alloc _) w.heap.size _ _=w1;have c1:ad [] w w1:=by rw[<- l];exact((ad.refl _ _).alloc _).put (.inr (cy _)) _ _
  have s1:w.heap.size<w1.heap.size:=by rw[<- l];simp
  have a5:hp w1 w.heap.size=some (.cells (ru p (.slice Ac p.1.chunks.length cc) (.slice q p.1.words.length t) (.slice E p.1.objs.length G)) 250):=by rw[<- l];exact aq (by simp) _ _
  clear l;generalize Z:w.heap.size=b5 at*;have f5:ao (hp w1 b5) (0+5)=some (.slice Ac p.1.chunks.length cc):=by rw[a5];rfl
  simp only[lF,aH,f5,zS];refine cp_ints bc (V.an c1.below) λa w2 T5 n5 c2=>?_;have H:=c2.at a5 (by simp);have o5:=(bq _).one T5;rw[sj (o:=0+5) o5.1 o5.2 (by rw[H,aT];exact cj (by show 0+5+1<=8;omega)),H,ay,ar,rgA_5];have p3:=aW.put w2 b5 (ru p a (.slice q p.1.words.length t) (.slice E p.1.objs.length G)) 250;have M:hp (put w2 b5 (ru p a (.slice q p.1.words.length t) (.slice E p.1.objs.length G)) 250) b5=some (.cells (ru p a (.slice q p.1.words.length t) (.slice E p.1.objs.length G)) 250):=aq (az H) _ _;have O:ad [] w (put w2 b5 (ru p a (.slice q p.1.words.length t) (.slice E p.1.objs.length G)) 250):=(c1.trans c2).put (.inr dy) _ _;generalize put w2 b5 (ru p a (.slice q p.1.words.length t) (.slice E p.1.objs.length G)) 250=w3 at*;have f7:ao (hp w3 b5) (0+7)=some (.slice E p.1.objs.length G):=by rw[M];rfl
  simp only[jx,rY,sh,f7,ac];refine cp_objs bo (X.an O.below) λf P T7 n7 c4=>?_;have m:=c4.at M (by simp);have o7:=(gf _).one T7;rw[st_76 (o:=0+7) o7.1 o7.2 (by rw[m,aT];exact cj (by show 0+7+1<=8;omega)),m,ay,ar,rgA_7];have S:hp (put P b5 (ru p a (.slice q p.1.words.length t) f) 250) b5=some (.cells (ru p a (.slice q p.1.words.length t) f) 250):=aq (az m) _ _;rw[st_97 (o:=0+6) rfl rfl (by rw[S,aT];exact cj (by show 0+6+1<=8;omega)),S,ay,ar,rgA_6,jI];have p6:=aW.put P b5 (ru p a (.slice none 0 0) f) 250;have a1:hp (put P b5 (ru p a (.slice none 0 0) f) 250) b5=some (.cells (ru p a (.slice none 0 0) f) 250):=aq (az m) _ _;have a2:ad [] w (put P b5 (ru p a (.slice none 0 0) f) 250):=(O.trans c4).put (.inr dy) _ _;generalize put P b5 (ru p a (.slice none 0 0) f) 250=w6 at*;have T:∀k,a.ownBlock=some k->k≠b5:=λk hk=>by have:=n5 k hk;omega
  have s3:=c2.size;have s4:=p3.size;have a3:∀k,f.ownBlock=some k->k≠b5:=λk hk=>by have:=n7 k hk;omega
  have a4:oj (λb=>a.ownBlock=some b) (λb=>f.ownBlock=some b):=λk J K=>by
   have:=(bq _).lt T5 k J;have:=n7 k K;omega
  have a6:=(bq _).frame ((bq _).frame ((bq _).frame T5 p3 λk J K=>T k J K) (aW.bV c4 ck) λ_ _ h=>h) p6 λk J K=>T k J K;have a7:=(gf _).frame T7 p6 λk J K=>a3 k J K;have n:fu w6 (rrT (cutW p 0)) (ru (cutW p 0) a (.slice none 0 0) f).toList (rrF (λb=>a.ownBlock=some b) ck (λb=>f.ownBlock=some b)):=
   rr_parts (p:=cutW p 0) a6 aL.nil a7 (λ_ _ h=>h) a4 (λ_ h _=>h)
  have u:∀k,under 8 (rrF (λb=>a.ownBlock=some b) ck (λb=>f.ownBlock=some b)) k->b5<k:=λk ⟨j,_,v⟩=>by
   unfold rrF at v;split at v
   ·have:=n5 k v;omega
   ·split at v
    ·exact v.elim
    ·split at v
     ·have:=n7 k v;omega
     ·exact v.elim
  have D:dV 250 b5 (rrT (cutW p 0)) w6 (λb=>b=b5\/under (rrT (cutW p 0)).length (rrF (λb=>a.ownBlock=some b) ck (λb=>f.ownBlock=some b)) b):=
   ⟨_,_,a1,n,λh=>by have:=u b5 h;omega,λ_=>Iff.rfl⟩
  have:=l_rCopy1 I B A C cW U (λw F3 c C' n'=>by
   have:=ih (i+1) w F3 c C' n' dy;rw[db i 1]at this;exact this) p.1.words.length 0 w6 _ a2 D (λk hk=>by
    rw[Z];rcases hk with hk|hk
    ·omega
    ·exact Nat.le_of_lt (u k hk)) dy
  exact this
theorem c_rCopy(I:iR w g x F)(B:CpB x):aa prog 108 [bU g] w (CpQ w x):=by
 apply F108_ok;have n:ad [] w w.drew:=(ad.refl _ _).drew;obtain⟨s,gn,r,dd,h,R⟩:=I.rd;obtain⟨As,cs,rfl,K⟩:=gC R.sT;obtain⟨Ag,cg,rfl,L⟩:=gC R.gT;obtain⟨Ad,a1,rfl,M⟩:=gC R.dT;have R':=R.an n;have lc:fR prog 25 (.pointer (some ⟨g,0+0,none⟩)) w.drew=some (.agg (dK x.c).toArray):=by
  rw[ld_25,mI 6 _ (dK x.c) rfl λj u hj=>by
   rw[R'.c j (by have:=(ce.1 hj).1;exact this),hj]]
  rfl
 have O:ao (hp w g) (0+6)=some (.bool x.loose):=R.l;simp only[F108,ae,ac,fM,fa_182_1,nU,fa_182_3,lC,aB,aH,lc,qu,R.sl,R.gl,R.dl,O];refine cp_ints B.s (K.an n.below) λv2 w2 P n2 o=>?_;refine cp_ints B.g (L.an (n.trans o).below) λv3 Y Q Z t=>?_;refine cp_ints B.d (M.an ((n.trans o).trans t).below) λv4 w4 T4 n4 v=>?_;obtain⟨y,k2,rfl,_⟩:=gC ⟨_,P⟩;obtain⟨z,A,rfl,_⟩:=gC ⟨_,Q⟩;obtain⟨D,E,rfl,_⟩:=gC ⟨_,T4⟩;have S:ai prog (Instr.build 182 #[(0,.agg (dK x.c).toArray),(1,.bool x.loose),(2,.slice y x.state.length k2),(3,.slice z x.gen.length A),(5,.slice D x.depth.length E)])=
  some (.agg (dK x.c++ [Value.bool x.loose,.slice y x.state.length k2,.slice z x.gen.length A,.slice none 0 0,.slice D x.depth.length E,.slice none 0 0]).toArray):=bd_182_0_1_2_3_5
 simp only[S,ak,au,ac];have l2:=λk h=>(bq _).lt P k h;have l3:=λk h=>(bq _).lt Q k h;have T:=(bq _).frame P (aW.bV (t.trans v) ck) λ_ _ h=>h;have U:=(bq _).frame Q (aW.bV v ck) λ_ _ h=>h;have s2:=o.size;have s3:=t.size;have s4:=v.size;have V:=rf_parts (w:=w4) (x:=cp0 x 0) T U (Fr:=ck) (rv:= .slice none 0 0) aL.nil T4 (Fh:=ck) (hv:= .slice none 0 0) aL.nil (by
  intro i j hi hj a2 b f m;have W:i=0\/i=1\/i=2\/i=3\/i=4:=dy;have X:j=0\/j=1\/j=2\/j=3\/j=4:=dy;have G:∀b,(Value.slice y x.state.length k2).ownBlock=some b->b<w2.heap.size:=l2;have H:∀b,(Value.slice z x.gen.length A).ownBlock=some b->w2.heap.size<=b/\b<Y.heap.size:=λb hb=>⟨Z b hb,l3 b hb⟩
  have J:∀b,(Value.slice D x.depth.length E).ownBlock=some b->Y.heap.size<=b:=n4;rcases W with rfl|rfl|rfl|rfl|rfl<;>rcases X with rfl|rfl|rfl|rfl|rfl<;>first
   |omega
   |(simp only[if_true,if_false,Nat.reduceEqDiff,ck]at f m;done)
   |(simp only[if_true,if_false,Nat.reduceEqDiff]at f m
     first
     |(have p:=G b f;have q:=H b m;omega)
     |(have p:=G b f;have q:=J b m;omega)
     |(have p:=H b f;have q:=G b m;omega)
     |(have p:=H b f;have q:=J b m;omega)
     |(have p:=J b f;have q:=G b m;omega)
     |(have p:=J b f;have q:=H b m;omega)))
 have cW:=(((n.trans o).trans t).trans v).alloc (.cells (dK x.c++ [Value.bool x.loose,.slice y x.state.length k2,.slice z x.gen.length A,.slice none 0 0,.slice D x.depth.length E,.slice none 0 0]).toArray 182);have C:=dV.new (e:=182) V (fm _);refine l_rCopy0 I B x.rgs.length 0 _ _ cW C (λk a=>?_) dy;have sd:w.drew.heap.size=w.heap.size:=rfl;rcases a with a|⟨j,_,a⟩
 ·omega
 ·split at a
  ·exact a.elim
  ·repeat' split at a
   ·have:=n2 k a;omega
   ·have:=Z k a;omega
   ·exact a.elim
   ·have:=n4 k a;omega
   ·exact a.elim
theorem cpB_rf{m:dv}{K:Nat}(e:Wf m K)(j:K<=1000000)(k:m.hands.length<=1000000):CpB (aP m):=by
 have n:=e.rl;have o:=e.sl;refine⟨by simp[aP];omega,λp hp=>?_,by simp[aP];omega,by simp[aP];omega,by simp[aP];omega,by simp[aP];omega,λl f=>?_⟩
 ·simp only[aP,List.mem_map]at hp;obtain⟨r,g,rfl⟩:=hp;have R:=e.rg r g;have a:=R.cl;have b:=R.wl;have c:=R.ol;have w2:=e.w2;refine⟨by simp only;omega,by simp only;omega,by simp only;omega,λl f=>by have:=R.ww l f;omega⟩
 ·simp only[aP,List.mem_map]at f;obtain⟨d,i,rfl⟩:=f;have D:=e.hd d i;omega
end
theorem Ev.aW.seq{F:Fp}{a b c:World}(h:aW F a b)(k:aW F b c):aW F a c:=(aO.trans (F:=F) (G:=F) (H:=F) ⟨h,λ_ d=> .inl d⟩ ⟨k,λ_ d=> .inl d⟩).aw
theorem mayB_wk{l:List dR}(h:nL l=true){i:Nat}(a:i<l.length):0<=l[i].wk:=by
 have b:mayL l:= @of_decide_eq_true _ (Classical.propDecidable _) h;have:=(b i a l[i] (bZ a)).1;unfold right at this;simp only[decide_eq_true_eq]at this;omega
theorem goV_top{rec:dv->List Int->Int->SkO}{l:List dR}{top:Int}{m:dv}{put:List Int}(a:∀m p t,t<=top->(rec m p t).2.2.1<=top):∀{is:List Nat} {t:Int},t<=top->(pq rec l top m put is t).2.2.1<=top
 | [],t,h=>h
 |i::is,t,h=>by
  unfold pq;split
  ·exact goV_top a h
  ·cases e:l[i]? with
   |none=>exact h
   |some s=>
    simp only;cases d:po l m s with
    |none=>exact goV_top a h
    |some r=>
     simp only;split
     ·exact h
     ·split
      ·exact goV_top a dy
      ·have c:=a (lY m s.wk s.op (bO l s) r).2 (put++ [(i:Int)]) (t+1) dy;generalize rec (lY m s.wk s.op (bO l s) r).2 (put++ [(i:Int)]) (t+1)=R at*;obtain⟨b,p',t',mn⟩:=R;cases b with
       |true=>exact c
       |false=>
        cases mn with
        |true=>exact c
        |false=>exact goV_top a c
theorem findV_top{l:List dR}{top:Int}:∀{f:Nat} {m:dv} {p:List Int} {t:Int},t<=top->(dQ l top f m p t).2.2.1<=top
 |0,m,p,t,h=>h
 |f+1,m,p,t,h=>by
  unfold dQ;split
  ·exact h
  ·exact goV_top (λm p t h=>findV_top h) h
theorem sli_rd{w:World}{A:Option Addr}{c:Nat}{put:List Int}(h:ed w A (ints put)):sY w (.slice A put.length c) put:=⟨A,c,rfl,λi a=>by
 obtain⟨p,hp,b⟩:=h i (bS put[i]) (by simp[ints,a]);exact⟨p,hp,by rw[b,cu,bZ a];rfl⟩⟩
theorem ap_ints2{w:World}{A:Option Addr}{c:Nat}{put:List Int}{K:Value->World->Prop}(F:put.length<=1000)(s:ed w A (ints put))(x:Int)
  (a:∀A' e w',ed w' A' (ints (put++ [x]))->(∀ p,A'=some p->w.heap.size<=p.block)->ad [] w w'->K (.slice A' (put.length+1) e) w'):dF prog (Builtin.append_ #[22,22] 22 #[(.slice none 0 0),.slice A put.length c]) w λb w=>dF prog (Instr.buildSlice 22 1 #[(0,bS x)]) w λd w=>dF prog (Builtin.append_ #[22,22] 22 #[b,d]) w K:=by
 obtain⟨i,t,v,z,hb⟩:=mR;refine iI (base:=w.heap.size) (xs:= []) (n:=0) (news:=ints put) (m:=put.length) underlying22 t v z rfl dy (World.ownsRow_nil _ _ _ _) (by simp[ints]) (λj u B=>s j u B) (λu o=>?_) (by unfold maxLen;omega) (by rw[hb];omega) (cy _)
  λx1 w1 f C=>?_
 ·simp only[ints,List.mem_map]at o;obtain⟨y,_,rfl⟩:=o;rfl
 have q:ad [] w w1:=(ad.refl _ _).grown C λk a=>by simp[Value.ownBlock]at a
 rw[List.nil_append,cV]at f;refine ps_22 (by simp) f dy q.size λG w2 r D _=>?_;have E:ad [] w w2:=q.grown D λk a=> .inr (m6 f a);have:ints (put++ [x])=ints put++ [bS x]:=by simp[ints]
 rw[<- this]at r;obtain⟨A',e,rfl,g,l,_⟩:=aG r;exact a A' e w2 g (λp hp=>(l p hp).1) E
theorem fA_1{A:Option Addr}{n cs:Nat}{left x:Int}{mn:Bool}:(fA A n cs left mn).setIfInBounds (0+1) (bS x)=fA A n cs x mn:=rfl
theorem fA_2{A:Option Addr}{n cs:Nat}{left:Int}{mn x:Bool}:(fA A n cs left mn).setIfInBounds (0+2) (.bool x)=fA A n cs left x:=rfl
section
variable{sk:Nat}{A:Option Addr}{cs:Nat}{l:List dR}{top:Int}
def FP(sk:Nat)(A:Option Addr)(cs:Nat)(l:List dR)(top:Int)(w0:World)(r:SkO)(v:Value)(w':World):Prop:=
 ∃a b,v= .tuple #[.slice a (if r.1=true then r.2.1 else []).length b,.bool r.1]/\ed w' a (ints (if r.1=true then r.2.1 else []))/\(∀ p,a=some p->p.block≠sk)/\
  hp w' sk=some (.cells (fA A l.length cs (top-r.2.2.1) r.2.2.2) 123)/\aW (· =sk) w0 w'
theorem FP.nil{w0 w':World}{put:List Int}{t:Int}{mn:Bool}(h:hp w' sk=some (.cells (fA A l.length cs (top-t) mn) 123))(c:aW (· =sk) w0 w'):FP sk A cs l top w0 (false,put,t,mn) (.tuple #[.slice none 0 0,.bool false]) w':=
 ⟨none,0,rfl,ed.nil _ _,λp hp=>(by cases hp),h,c⟩
def FFromC(sk:Nat)(A:Option Addr)(cs:Nat)(l:List dR)(top:Int)(c:cP)(f:Nat):Prop:=∀(m:dv) (g:Nat) (F:Fp) (K:Nat) (put:List Int) (t:Int) (a:Option Addr) (b:Nat) (w:World),
 hp w sk=some (.cells (fA A l.length cs (top-t) false) 123)->ed w A (l.flatMap ji)->ed w a (ints put)->(∀ p,a=some p->p.block≠sk)->iR w g (aP m) F->¬F sk->StO m c K->K+f<=900->put.length+f<=900->0<=t->t<=top->tX l put<f->
 aa prog 59 [bU sk,bU g,.slice a put.length b] w (FP sk A cs l top w (dQ l top f m put t))
theorem l_ffrom(hl:l.length<=12)(d7:nL l=true)(rq:∀p,A=some p->l≠ []->p.block≠sk)(j3:top<=9223372036854775807){c:cP}(hc:hY c=true){f:Nat}(rec:FFromC sk A cs l top c f){m:dv}{g:Nat}{F:Fp}{K:Nat}{put:List Int}(P:StO m c K)(hK:K+f<=899)(j9:put.length+f<=899)(h4:tX l put<=f){W:World}{Ap:Option Addr}{cp:Nat}
  (hA:ed W A (l.flatMap ji)) (hP:ed W Ap (ints put)) (h5:∀p,Ap=some p->p.block≠sk) (I:iR W g (aP m) F) (hF:¬F sk):
  ∀(d i:Nat) (t:Int) (w:World),hp w sk=some (.cells (fA A l.length cs (top-t) false) 123)->aW (· =sk) W w->0<=t->t<=top->i+d=l.length->
  P59_0 (bU sk) (bU g) (.slice Ap put.length cp) (bS i) w (FP sk A cs l top W (pq (dQ l top f) l top m put (List.range' i d) t)):=by
 have an:∀{w:World},aW (· =sk) W w->ed w A (l.flatMap ji)/\ed w Ap (ints put)/\iR w g (aP m) F:=λh=>
  ⟨rd_chgP hA h λp hp h6=>rq p hp λe=>h6 (by rw[e];rfl),rd_chgP hP h λp hp _=>h5 p hp,dV.frame I (fm _) h λb h1 h2=>hF (by rw[<- (show b=sk from h2)];exact h1)⟩
 intro d;induction d with
 |zero=>
  intro i t w G hW ht Q hi;apply L59_0_ok;have:¬((i:Int)<l.length):=dy;simp only[L59_0,ae,zS,lA,iV,fa0 G,ff,this];exact FP.nil G hW
 |succ d ih=>
  intro i t w G hW ht Q hi;apply L59_0_ok;have h7:(i:Int)<l.length:=dy;have H:i<l.length:=dy;obtain⟨kA,kP,kI⟩:=an hW;simp only[L59_0,ae,zS,lA,iV,fa0 G,ff,h7];have next:∀(t':Int) (w':World),hp w' sk=some (.cells (fA A l.length cs (top-t') false) 123)->aW (· =sk) W w'->0<=t'->t'<=top->
    P59_1 (bU sk) (bU g) (.slice Ap put.length cp) (bS i) w' (FP sk A cs l top W (pq (dQ l top f) l top m put (List.range' (i+1) d) t')):=by
   intro t' w' d8 h8 a9 C;apply L59_1_ok;simp only[L59_1,aj,ap (n:=(i:Int)+1) dy dy,zS];have:=ih (i+1) t' w' d8 h8 a9 C dy;rw[db i 1]at this;exact this
  have a4:List.range' i (d+1)=i::List.range' (i+1) d:=rfl;rw[a4];refine(c_fMay dy kA dy G (sli_rd kP) H).mono ?_;rintro _ w2 ⟨rfl,c2⟩;have S:aW (· =sk) W w2:=hW.seq (aW.bV c2 _);have q:=c2.at G (by simp);cases hn:kq l put i with
  |false=>
   simp only[zS];have:pq (dQ l top f) l top m put (i::List.range' (i+1) d) t=pq (dQ l top f) l top m put (List.range' (i+1) d) t:=by
    rw[pq,bX hn]
   rw[this];exact next t w2 q S ht Q
  |true=>
  have d9:pq (dQ l top f) l top m put (i::List.range' (i+1) d) t=(match po l m l[i]with
   |none=>pq (dQ l top f) l top m put (List.range' (i+1) d) t
   |some r=>
    if top<=t then(false,put,t,true)else
    if(lY m l[i].wk l[i].op (bO l l[i]) r).1=false then pq (dQ l top f) l top m put (List.range' (i+1) d) (t+1)else
    match dQ l top f (lY m l[i].wk l[i].op (bO l l[i]) r).2 (put++ [(i:Int)]) (t+1)with
    |(true,p',t',mn)=>(true,p',t',mn)
    |(false,p',t',true)=>(false,p',t',true)
    |(false,p',t',false)=>pq (dQ l top f) l top m put (List.range' (i+1) d) t'):=by
   rw[pq,bY (by rw[hn];simp),bZ H];all_goals rfl
  rw[d9];clear d9;obtain⟨e1,k1,k2⟩:=an S;obtain⟨b,o,q1,q2⟩:=hJ (c:=cs) (j:= .i64) (i:=i) e1 H;have k3:0<=l[i].wk:=mayB_wk d7 H;have hh:=nO H;generalize hs:l[i]=s at*;simp only[zS,fa0 q,q1,q2.ld,al_39];rw[st_39 (by rfl) (by rfl) (by rw[af,bX rfl];rfl) (by rw[af,bX rfl];rfl),af,bX rfl,ar];generalize b1:Ev.put (w2.alloc _) w2.heap.size (jV s) 39=w3;have c3:ad [] w2 w3:=by rw[<- b1];exact((ad.refl _ _).alloc _).put (.inr (cy _)) _ _
  have b9:hp w3 w2.heap.size=some (.cells (jV s) 39):=by rw[<- b1,bf,bX rfl,bX (by simp)]
  clear b1;have k4:sk<w2.heap.size:=az q;generalize k5:w2.heap.size=g9 at*;have e2:=c3.at q (by simp);simp only[zS,fa0 e2];refine(sG (c:=cs) dy (e1.an c3.below) (i:Int)).mono ?_;rintro _ w4 ⟨rfl,c4⟩;rw[hh];have e3:=c4.at b9 (by simp);simp only[al_32];rw[st_hn (c:=(bB kY).toArray) (e:=32) (by rw[af,bX rfl];rfl) rfl];generalize b2:Ev.put (w4.alloc _) w4.heap.size (bB (bO l s)).toArray 32=w5;have c5:ad [] w4 w5:=by rw[<- b2];exact((ad.refl _ _).alloc _).put (.inr (cy _)) _ _
  have e4:hp w5 w4.heap.size=some (.cells (bB (bO l s)).toArray 32):=by rw[<- b2,bf,bX rfl,bX (by simp)]
  clear b2;have j4:g9<w4.heap.size:=az e3;generalize j5:w4.heap.size=b3 at*;have e5:=c5.at e3 (by simp);simp only[zS,jg,At.ldre e5,sn];rw[hI (c:=_) (e:=35) (by rw[af,bX rfl]) rfl];generalize b4:Ev.put (w5.alloc _) w5.heap.size (fI s.re).toArray 35=O;have c6:ad [] w5 O:=by rw[<- b4];exact((ad.refl _ _).alloc _).put (.inr (cy _)) _ _
  have b6:hp O w5.heap.size=some (.cells (fI s.re).toArray 35):=by rw[<- b4,bf,bX rfl,bX (by simp)]
  clear b4;have h9:b3<w5.heap.size:=az e4;generalize j6:w5.heap.size=b7 at*;have J:=c6.at e5 (by simp);have T:=c6.at e4 (by simp);have b8:ad [] w2 O:=((c3.trans c4).trans c5).trans c6;have B:∀(r:jo) (x:World),ad [] w2 x->hp x g9=some (.cells (jV s) 39)->hp x b3=some (.cells (bB (bO l s)).toArray 32)->hp x b7=some (.cells (fI r).toArray 35)->
    P59_2 (bU sk) (bU g) (.slice Ap put.length cp) (bS i) (bU g9) (bU b3) (bU b7) x (FP sk A cs l top W (
     if top<=t then(false,put,t,true)else
     if(lY m s.wk s.op (bO l s) r).1=false then pq (dQ l top f) l top m put (List.range' (i+1) d) (t+1)else
     match dQ l top f (lY m s.wk s.op (bO l s) r).2 (put++ [(i:Int)]) (t+1)with
     |(true,p',t',mn)=>(true,p',t',mn)
     |(false,p',t',true)=>(false,p',t',true)
     |(false,p',t',false)=>pq (dQ l top f) l top m put (List.range' (i+1) d) t')):=by
   intro r x L U D V;apply L59_2_ok;have M:aW (· =sk) W x:=S.seq (aW.bV L _);have a:=L.at q (by simp);have ok:∀k,k<3->mX (hp x sk) (0+k+1)=true:=λk hk=>by rw[a,aT];exact cj (by show 0+k+1<=3;omega)
   by_cases e6:top<=t
   ·have e0:(top-t==0)=true:=by rw[show top-t=0 by omega];rfl
    simp only[L59_2,ae,zS,fa_123_1,fa_123_2,ag,fa1 a,e0];rw[fC mQ rfl rfl (ok 2 dy),a];simp only[ay,ar,fA_2,bX e6];exact FP.nil (aq (az a) _ _) (M.seq (aW.put _ _ _ _))
   have e0:(top-t==0)=false:=bn dy;simp only[L59_2,ae,zS,fa_123_1,fa_123_2,ag,fa1 a,e0,aZ,ap (n:=top-t-1) dy dy];rw[fC aE rfl rfl (ok 1 dy),a];simp only[ay,ar,fA_1,bY e6];have c8:=aW.put x sk (fA A l.length cs (top-t-1) false) 123;have X:hp (Ev.put x sk (fA A l.length cs (top-t-1) false) 123) sk=some (.cells (fA A l.length cs (top-(t+1)) false) 123):=by rw[aq (az a),show top-(t+1)=top-t-1 by omega]
   have c1:=c8.at U dy;have Y:=c8.at D dy;have Z:=c8.at V dy;generalize Ev.put x sk (fA A l.length cs (top-t-1) false) 123=w8 at*;have e7:=M.seq c8;obtain⟨i1,i2,i3⟩:=an e7;refine(c_rCopy i3 (cpB_rf P.wf dy (P.hands hc))).mono ?_;rintro _ w9 ⟨g3,F3,rfl,I9,e8,c9⟩;have e9:=c9.at c1 (by simp);have f2:=c9.at Y (by simp);have E:=c9.at Z (by simp);have j7:=c9.at X (by simp);have a5:ao (hp w9 g9) (0+0)=some (bS s.wk):=rm e9 0;simp only[zS,ic,jf,ag,a5,(pj e9).ldop,jh f2,ld_rsW E];refine(c_rDo I9 P.wf P.wn dy s.wk s.op (bO l s) r).mono ?_;rintro _ d1 ⟨rfl,F4,i4,u10⟩;have z:ad [] w8 d1:=sI c9 u10 e8;have i5:=sJ c9 u10 e8;have a7:aW (· =sk) W d1:=e7.seq (aW.bV z _);have a1:=z.at X (by simp);cases k6:(lY m s.wk s.op (bO l s) r).1 with
   |false=>
    simp only[zS,if_true];exact next (t+1) d1 a1 a7 dy dy
   |true=>
   simp only[zS,if_false,Bool.true_eq_false];have f3:=i2.an z.below;refine ap_ints2 dy f3 (i:Int) λi6 i7 i8 f4 f5 y=>?_;have k7:=leftN_lt H hn;have d2:=y.at a1 (by simp);have k8:sk<w8.heap.size:=az X;have j8:=z.size;have f6:¬F4 sk:=λh=>by have:=i5 sk h;omega
   have f7:put.length+1=(put++ [(i:Int)]).length:=by simp
   rw[f7];refine(rec _ g3 F4 (K+1) (put++ [(i:Int)]) (t+1) i6 i7 i8 d2 ((i1.an z.below).an y.below) f4 (λp hp=>by have:=f5 p hp;omega) (i4.an y) f6 (P.lY dy _ _ _ _) dy (by simp;omega) dy dy dy).mono ?_;rintro v g1 ⟨g2,g4,rfl,a2,a8,u,g5⟩;have a9:=findV_t (l:=l) (top:=top) (f:=f) (m:=(lY m s.wk s.op (bO l s) r).2) (p:=put++ [(i:Int)]) (t:=t+1);have C:=findV_top (l:=l) (top:=top) (f:=f) (m:=(lY m s.wk s.op (bO l s) r).2) (p:=put++ [(i:Int)]) (t:=t+1) dy;have a3:aW (· =sk) W g1:=(a7.seq (aW.bV y _)).seq g5;generalize dQ l top f (lY m s.wk s.op (bO l s) r).2 (put++ [(i:Int)]) (t+1)=R at*;obtain⟨bb,p',t',mn'⟩:=R;simp only at u a9 C a2;cases bb with
   |true=>
    simp only[jk,jm,zS,if_true];exact⟨g2,g4,by first|rfl|simp,by simpa using a2,a8,u,a3⟩
   |false=>
   simp only[jk,jm,zS,fa_123_2,aB,fa2 u];cases mn' with
   |true=>
    simp only[zS];exact⟨g2,g4,by first|rfl|simp,by simpa using a2,a8,u,a3⟩
   |false=>
   simp only[zS];exact next t' g1 u a3 dy C
  have d3:ao (hp O g9) (0+11)=some (bS s.rs):=rm J 11;have f9:ao (hp O g9) (0+9)=some (bS s.pt):=rm J 9;by_cases h1:s.rs<0
  case neg=>
   have hr:po l m s=some s.re:=by rw[po,bY (λh=>h1 h.1)]
   rw[hr];simp only[zS,gS,ag,d3,h1];exact B s.re O b8 J T b6
  by_cases h2:s.pt<0
  case neg=>
   have hr:po l m s=some s.re:=by rw[po,bY (λh=>h2 h.2)]
   rw[hr];simp only[zS,lj,gS,ag,d3,f9,h1,h2];exact B s.re O b8 J T b6
  have hr:po l m s=if(dI m s.wk s.op (bO l s)).2=true then some (dI m s.wk s.op (bO l s)).1 else none:=by rw[po,bX ⟨h1,h2⟩]
  have i9:fR prog 37 (.pointer (some ⟨g9,0+2,none⟩)) O.drew=some (.agg (dC s.op).toArray):=(pj (show hp O.drew g9=_ from J)).ldop;simp only[zS,jf,lj,gS,ag,d3,f9,h1,h2,i9];refine(c_refMay s.op O.drew).mono ?_;rintro _ x ⟨rfl,c7⟩;have a6:ad [] O x:=(ad.refl [] O).drew.trans c7;have L:=b8.trans a6;have M:aW (· =sk) W x:=S.seq (aW.bV L _);have a:=L.at q (by simp);have U:=a6.at J (by simp);have D:=a6.at T (by simp);have V:=a6.at b6 (by simp);cases g6:jz s.op with
  |false=>
   simp only[zS];rw[resV_no P ⟨h1,h2⟩ (.inl g6)];exact next t x a M ht Q
  |true=>
  obtain⟨_,_,g7⟩:=an M;obtain⟨_,_,_,_,_,R7⟩:=g7.rd;have g8:ao (hp x g) (0+0+0)=some (bS c.1):=by
   have:=R7.c 0 dy;rw[show(aP m).c=c from P.mc]at this;exact this
  have a5:ao (hp x g9) (0+0)=some (bS s.wk):=rm U 0;by_cases hw:c.1<=s.wk
  ·simp only[zS,ic,fM,eS,ag,a5,g8,hw];rw[resV_no P ⟨h1,h2⟩ (.inr hw)];exact next t x a M ht Q
  have h3:fR prog 37 (.pointer (some ⟨g9,0+2,none⟩)) x=some (.agg (dC s.op).toArray):=(pj U).ldop;have j1:jQ m s.wk.toNat s.op=true:=by
   have:=P.wn.cw;rw[P.mc]at this;rw[jQ,g6,cj dy,cj dy];rfl
  have cm:=c_rMust g7 P.wf dy j1 (bO l s);rw[show((s.wk.toNat:Nat):Int)=s.wk by omega]at cm;simp only[zS,ic,fM,eS,ag,a5,g8,hw,h3,jh D];refine cm.mono ?_;rintro _ w8 ⟨rfl,c8⟩;have c1:=c8.at U (by simp);have Y:=c8.at D (by simp);have Z:=c8.at V (by simp);simp only[jk,jm,zS];rw[hI (c:=_) (e:=35) (by rw[af,bX rfl]) rfl];generalize d4:Ev.put (w8.alloc _) w8.heap.size _ 35=w9;have c9:ad [] w8 w9:=by rw[<- d4];exact((ad.refl _ _).alloc _).put (.inr (cy _)) _ _
  have j2:hp w9 w8.heap.size=some (.cells (fI (dI m s.wk s.op (bO l s)).1).toArray 35):=by rw[<- d4,bf,bX rfl,bX (by simp)]
  clear d4;have d5:=(L.trans c8).trans c9;have E:=c9.at Z (by simp);rw[hr];cases k9:(dI m s.wk s.op (bO l s)).2 with
  |false=>
   simp only[zS,if_false,Bool.false_eq_true];exact next t w9 (d5.at q (by simp)) (S.seq (aW.bV d5 _)) ht Q
  |true=>
   simp only[zS,ld_rsW j2,hI E rfl,if_true];have d6:w2.heap.size<=b7:=dy;refine B _ _ (d5.put (.inr d6) _ _) ?_ ?_ (aq (az E) _ _)
   ·rw[bf,bY dy];exact c9.at c1 (by simp)
   ·rw[bf,bY dy];exact c9.at Y (by simp)
end
section
variable{l:List dR}{top t:Int}{m m':dv}{put:List Int}{rec:dv->List Int->Int->SkO}{a b is js:List Nat}{i f:Nat}{s:dR}{r:jo}{h:eF}
end
section
variable{v w x top:Int}{f:Nat}
end
theorem spC_one0(s:dR):∀u∈ji s,u.oneCell'=true:=λu a=>List.all_eq_true.1 (show(ji s).all (·.oneCell')=true from rfl) u a
theorem rdV_blk{w:World}{b:Nat}{cs:List Value}{e:TypeId}(h:hp w b=some (.cells cs.toArray e)):ed w (some ⟨b,0,none⟩) cs:=λj u a=>by
 refine⟨_,rfl,?_⟩;rw[eR,gi,h,aN,cV];simpa using a
theorem ap_spans{w:World}{A:Option Addr}{n c:Nat}{l:List dR}{K:Value->World->Prop}(o:n=l.length)(y:l.length<=1000)(p:ed w A (l.flatMap ji))
  (a:∀A' b w',ed w' A' (l.flatMap ji)->ad [] w w'->K (.slice A' l.length b) w'):dF prog (Builtin.append_ #[26,26] 26 #[(.slice none 0 0),.slice A n c]) w K:=by
 obtain⟨i,q,r,t,hb⟩:=inf_39;subst o;refine iI (base:=w.heap.size) (xs:= []) (n:=0) (news:=l.flatMap ji) (m:=l.length) Tryz.underlying26 q r t rfl dy (World.ownsRow_nil _ _ _ _) (bN nJ l) (λj u v=>p j u v) (λu d=>?_) (by unfold maxLen;omega) (by rw[hb];omega) (cy _)
  λx' w1 g x=>?_
 ·obtain⟨s,_,d⟩:=List.mem_flatMap.1 d;exact spC_one0 s u d
 have e:ad [] w w1:=(ad.refl _ _).grown x λk a=>by simp[Value.ownBlock]at a
 rw[List.nil_append,cV]at g;obtain⟨A',b,rfl,f,_⟩:=aG g;exact a A' b w1 f e
def re0:jo:=(0,(0,0,0,0,0),0,0)
def cFv:cP:=(1,1,8,1,0,1)
def opP:ez:=(3,0,0,0,0,0)
def sF(r:jo):dR:=⟨0,0,opP,0,1,-1,1,r⟩
theorem may_one(r:jo):nL [sF r]=true:=mayB_t λi b s c=>by
 have b:i<1:=b;obtain rfl:i=0:=dy;have:sF r=s:=Option.some.inj c;subst this;exact⟨rfl,λp h=>dy,λk a h=>dy⟩
theorem top_0:dU cFv [] 5=([],0):=by
 rw[dU,bX ⟨dz,mayB_t λi hi=>absurd hi (by simp),dz⟩];decide +kernel
theorem top_1:dU cFv [sF re0] 5=([0],0):=by
 rw[dU,bX ⟨dz,may_one _,dz⟩];decide +kernel
theorem li_len{w:World}{v:Value}{xs:List Int}(h:sY w v xs):ai prog (Builtin.len_ #[22] 3 #[v])=some (bS xs.length):=by
 obtain⟨A,c,rfl,_⟩:=h;exact aK
theorem li_at{w:World}{v:Value}{xs:List Int}(h:sY w v xs){i:Nat}{y:Int}(a:xs[i]? =some y):
  ∃q:Addr,ai prog (Instr.indexAt 22 v (bS (i:Int)))=some (.pointer (some q))/\fR prog 3 (.pointer (some q)) w=some (bS y):=by
 obtain⟨A,c,rfl,b⟩:=h;exact int_at b a
theorem c_first26(w:World):aa prog 9 [] w λv w'=>v= .bool true/\ad [] w w':=by
 apply F9_ok;have f:ai prog (Instr.build 25 #[(0,bS 1),(1,bS 1),(2,bS 8),(3,bS 1),(5,bS 1)])=some (.agg (dK cFv).toArray):=bd_25_0_1_2_3_5;have g:ai prog (Instr.build 39 #[(2,.agg (dC opP).toArray),(4,bS 1),(5,bS (-1)),(6,bS 1)])=some (.agg (jV (sF re0))):=bd_39_2_4_5_6;have j:ai prog (Instr.build 37 #[(0,bS 3)])=some (.agg (dC opP).toArray):=bd_37_0;have k:∀(s:dR) (w:World) (K:Value->World->Prop),dF prog (Instr.buildSlice 26 1 #[(0,.agg (jV s))]) w K=K (.slice (some ⟨w.heap.size,0,none⟩) 1 1) (w.alloc (.cells (jV s) 39)):=λs w K=>bs_26_1;simp only[F9,f,ac,al_25];rw[st_25 rfl rfl (by rw[af,bX rfl];rfl) (by rw[af,bX rfl];rfl),af,bX rfl,ar];generalize a:Ev.put (w.alloc _) w.heap.size (dK cFv).toArray 25=w1;have p:ad [] w w1:=by rw[<- a];exact((ad.refl _ _).alloc _).put (.inr (cy _)) _ _
 have n:hp w1 w.heap.size=some (.cells (dK cFv).toArray 25):=by rw[<- a,bf,bX rfl,bX (by simp)]
 clear a;simp only[fW n,ac];refine(c_Find (l:= []) (by simp) (A:=none) (cs:=0) (ed.nil _ _) cFv (most:=5) dy).mono ?_;rintro _ w2 ⟨p1,rfl,d,o⟩;rw[top_0]at d⊢;have r:=o.at n (by simp);simp only[jk,jm,zS,j,g,k,fW r];have t:ad [] w2 (w2.alloc (.cells (jV (sF re0)) 39)):=(ad.refl _ _).alloc _;have u:ed (w2.alloc (.cells (jV (sF re0)) 39)) (some ⟨w2.heap.size,0,none⟩) ([sF re0].flatMap ji):=by
  have:=rdV_blk (w:=w2.alloc (.cells (jV (sF re0)) 39)) (b:=w2.heap.size) (cs:=ji (sF re0)) (e:=39) (by rw[af,bX rfl];rfl);simpa using this
 refine(c_Find (l:= [sF re0]) (by simp) (cs:=1) u cFv (most:=5) dy).mono ?_;rintro _ B ⟨p2,rfl,c,x⟩;rw[top_1]at c⊢;obtain⟨q,m,z⟩:=li_at c (i:=0) (y:=0) rfl;have m:ai prog (Instr.indexAt 22 p2 (bS 0))=some (.pointer (some q)):=m;simp only[jk,jm,zS,li_len d,li_len c,List.length_nil,List.length_singleton,m,z,show(((0:Nat):Int)==0)=true from rfl,show(((1:Nat):Int)==1)=true from rfl];exact⟨trivial,(p.trans o).trans (t.trans x)⟩
section
variable{sk:Nat}{A:Option Addr}{cs:Nat}{l:List dR}{top:Int}
theorem c_fFrom(n:l.length<=12)(a:nL l=true)(rq:∀p,A=some p->l≠ []->p.block≠sk)(b:top<=9223372036854775807){c:cP}(o:hY c=true):∀f:Nat,f<=800->FFromC sk A cs l top c f
 |0,_,m,g,F,K,put,t,q,r,w,_,_,_,_,_,_,_,_,_,_,_,e=>absurd e dy
 |f+1,z,m,g,F,K,put,t,q,r,w,d,s,j,i,I,u,v,B,x,y,k,e=>by
  apply F59_ok;simp only[F59];refine(c_fWhole dy s dy d (sli_rd j)).step ?_;unfold dQ;cases C:pY l put with
  |true=>
   simp only[zS,if_true];exact⟨q,r,by first|rfl|simp,by simpa using j,i,d,aW.refl _ _⟩
  |false=>
   simp only[zS,if_false,Bool.false_eq_true];rw[List.range_eq_range'];exact l_ffrom n a rq b o (c_fFrom n a rq b o f dy) v dy dy dy s j i I u l.length 0 t w d (aW.refl _ _) y k dy
theorem c_fFind{w:World}(hl:l.length<=1000)(x:ed w A (l.flatMap ji))(c:cP){most:Int}(y:most<=9223372036854775807):aa prog 30 [.agg (dK c).toArray,.slice A l.length cs,bS most] w λv w'=>∃pv,v= .tuple #[pv,bS (dU c l most).2]/\sY w' pv (dU c l most).1/\ad [] w w':=by
 apply F30_ok;simp only[F30,ak,au];generalize s:w.alloc _=w1;have U:ad [] w w1:=by rw[<- s];exact(ad.refl _ _).alloc _
 have K:hp w1 w.heap.size=some (.cells (dK c).toArray 25):=by rw[<- s,af,bX rfl]
 have s1:w1.heap.size=w.heap.size+1:=by rw[<- s,ah]
 clear s;have q:∀w',sY w' (.slice none 0 0) []:=λw'=>⟨none,0,rfl,λi V=>absurd V (by simp)⟩
 simp only[fW K,ac];refine(c_cfMay c w1).mono ?_;rintro _ w2 ⟨rfl,L⟩;have f:=U.trans L;cases n:hY c with
 |false=>
  have b:dU c l most=([],1):=by rw[dU,bY (by rw[n];simp)]
  rw[b];simp only[zS];exact⟨_,rfl,q _,f⟩
 |true=>
 simp only[zS];refine(c_RMayRef dy ⟨A,cs,rfl,x.an f.below⟩).mono ?_;rintro _ o ⟨rfl,M⟩;have e:=f.trans M;cases z:nL l with
 |false=>
  have b:dU c l most=([],1):=by rw[dU,bY (by rw[z];simp)]
  rw[b];simp only[zS];exact⟨_,rfl,q _,e⟩
 |true=>
 by_cases r:(12:Int)<l.length
 ·have b:dU c l most=([],1):=by rw[dU,bY dy]
  rw[b];simp only[zS,ff,r];exact⟨_,rfl,q _,e⟩
 have B:∀t:Int,ai prog (Instr.build 123 #[(0,.slice A l.length cs),(1,bS t)])=some (.agg (fA A l.length cs t false)):=λt=>bd_123_0_1;have C:(if(0:Int)>most then 0 else most)=max most 0:=by
  by_cases h:(0:Int)>most
  ·rw[bX h,Int.max_eq_right dy]
  ·rw[bY h,Int.max_eq_left dy]
 simp only[zS,ff,r,pr_max2,C,B,au];generalize j:o.alloc _=u;have O:ad [] o u:=by rw[<- j];exact(ad.refl _ _).alloc _
 have P:hp u o.heap.size=some (.cells (fA A l.length cs (max most 0) false) 123):=by rw[<- j,af,bX rfl]
 clear j;have D:=(L.trans (M.trans O)).at K (by simp);have s3:=e.size;simp only[fW D,ac];refine(c_rNew c true n u).mono ?_;rintro _ Q ⟨g,F,rfl,S,I,W⟩;have d:=(e.trans O).trans S;have b5:=S.at P (by simp);have X:o.heap.size<u.heap.size:=az P;have E:hp Q o.heap.size=some (.cells (fA A l.length cs (max most 0-0) false) 123):=by rw[Int.sub_zero];exact b5
 have G:tX l []<l.length+1:=by
  have:=List.countP_le_length (p:=λi:Nat=> !([]:List Int).contains (i:Int)) (l:=List.range l.length);rw[List.length_range]at this;unfold tX;omega
 refine(c_fFrom dy z (λp hp H hs=>by
   have:=rd_lt x (λh=>H (by
    cases l with
    |nil=>rfl
    |cons a l=>simp[ji]at h)) hp
   omega) dy n (l.length+1) dy (oy c true) g F 0 [] 0 none 0 Q E (x.an d.below) (ed.nil _ _) (λp hp=>by cases hp) I (λh=>by have:=W _ h;omega) ⟨wf_new n true,wn_new n true,rfl⟩ dy (by simp;omega) dy dy G).mono ?_
 rintro v Y ⟨Ap,cp,rfl,Z,hB,J,cW⟩;have m:ad [] w Y:=⟨cW.os.trans d.os,cW.tape.trans d.tape,cW.output.trans d.output,cQ d.size cW.size,λk T _=>by
  rw[cW.block k (cY T d.size) (by show¬k=o.heap.size;omega)];exact d.block k T (by simp)⟩
 have b:dU c l most=match dQ l (max most 0) (l.length+1) (oy c true) [] 0 with
  |(true,p,_,_)=>(p,0)
  |(false,_,_,true)=>([],11)
  |(false,_,_,false)=>([],10):=by rw[dU,bX ⟨n,z,dy⟩];all_goals rfl
 rw[b];clear b;generalize dQ l (max most 0) (l.length+1) (oy c true) [] 0=R at*;obtain⟨bb,p',t',mn⟩:=R;cases bb with
 |true=>
  simp only[jk,jm,zS,if_true];refine⟨_,rfl,?_,m⟩;exact sli_rd (by simpa using Z)
 |false=>
  simp only[jk,jm,zS,fa_123_2,aB,fa2 J];cases mn with
  |true=>
   simp only[zS];exact⟨_,rfl,q _,m⟩
  |false=>
   simp only[zS];exact⟨_,rfl,q _,m⟩
end
theorem goV_len{l:List dR}{top:Int}{K:Nat}{rec:dv->List Int->Int->SkO}{m:dv}{put:List Int}(a:∀m p t,(rec m p t).2.1.length<=p.length+K):∀{is:List Nat} {t:Int},(pq rec l top m put is t).2.1.length<=put.length+1+K
 | [],t=>by simp only[pq];omega
 |i::is,t=>by
  unfold pq;split
  ·exact goV_len a
  ·cases e:l[i]? with
   |none=>simp only;omega
   |some s=>
    simp only;cases d:po l m s with
    |none=>exact goV_len a
    |some r=>
     simp only;split
     ·simp only;omega
     ·split
      ·exact goV_len a
      ·have c:=a (lY m s.wk s.op (bO l s) r).2 (put++ [(i:Int)]) (t+1);rw[cJ,List.length_singleton]at c;generalize rec (lY m s.wk s.op (bO l s) r).2 (put++ [(i:Int)]) (t+1)=R at*;obtain⟨b,p',t',mn⟩:=R;cases b with
       |true=>exact c
       |false=>
        cases mn with
        |true=>exact c
        |false=>exact goV_len a
theorem findV_len{l:List dR}{top:Int}:∀{f:Nat} {m:dv} {put:List Int} {t:Int},(dQ l top f m put t).2.1.length<=put.length+f
 |0,m,p,t=>cy _
 |f+1,m,p,t=>by
  unfold dQ;split
  ·simp only;omega
  ·have:=goV_len (l:=l) (top:=top) (K:=f) (rec:=dQ l top f) (m:=m) (put:=p) (λm p t=>findV_len) (is:=List.range l.length) (t:=t);omega
theorem findTop_len{c:cP}{l:List dR}{most:Int}:(dU c l most).1.length<=13:=by
 unfold dU;split
 ·rename_i h;have:=findV_len (l:=l) (top:=max most 0) (f:=l.length+1) (m:=oy c true) (put:= []) (t:=0);generalize dQ l (max most 0) (l.length+1) (oy c true) [] 0=R at*;obtain⟨a,p',t',mn⟩:=R;cases a with
  |true=>simp only at this ⊢;simp at this;omega
  |false=>cases mn<;>simp
 ·simp
section
variable{As:Option Addr}{cs:Nat}{l:List dR}
theorem c_says26(n:l.length<=1000){w:World}(o:ed w As (l.flatMap ji))(c:cP){most:Int}(e:most<=9223372036854775807):aa prog 12 [.agg (dK c).toArray,.slice As l.length cs,bS most] w λv w'=>v= .bool true/\ad [] w w':=by
 apply F12_ok;simp only[F12,ak,au];generalize j:w.alloc _=w1;have t:ad [] w w1:=by rw[<- j];exact(ad.refl _ _).alloc _
 have u:hp w1 w.heap.size=some (.cells (dK c).toArray 25):=by rw[<- j,af,bX rfl]
 clear j;have f:hp w1.drew w.heap.size=some (.cells (dK c).toArray 25):=u;have g:=t.drew;simp only[fW f,ac];refine ap_spans rfl dy (o.an g.below) λA' x w2 k p=>?_;refine mu (R:=λv w'=>∃pv,v= .tuple #[pv,bS (dU c l most).2]/\sY w' pv (dU c l most).1) ((c_Find (cs:=x) n k c e).mono λv w' ⟨pv,a,b,d⟩=>⟨⟨pv,a,b⟩,d⟩) λv A hv q=>?_;obtain⟨pv,rfl,kW⟩:=hv;have i:=(g.trans p).trans q;have y:=(p.trans q).at f (by simp);simp only[jk,jm,ac,fW y];refine(c_fFind (cs:=cs) n (o.an i.below) c e).mono ?_;rintro _ B ⟨C,rfl,m,r⟩;simp only[jk,jm,zS];have s:=findTop_len (c:=c) (l:=l) (most:=most);refine(c_SameInts dy (kW.an r.below) m).mono ?_;rintro _ D ⟨rfl,z⟩;simp only[zS];exact⟨by simp,i.trans (r.trans (ad.of_below z []))⟩
end
section
variable{W w w':World}{v:Value}{l:List dR}{A:Option Addr}{k n:Nat}
structure OwS(W w:World)(v:Value)(l:List dR):Prop where
 own:w.ownsRow W.heap.size 39 20 v l.length (l.flatMap ji)
 ch:ad [] W w
theorem spC_one(l:List dR):∀u∈l.flatMap ji,u.oneCell'=true:=λu a=>by
 obtain⟨s,_,h⟩:=List.mem_flatMap.1 a;simp only[ji,dg,dk,or_false]at h;rcases h with rfl|rfl|rfl|rfl|rfl|rfl|rfl|rfl|rfl|rfl|rfl|rfl|rfl|rfl|rfl|rfl|rfl|rfl|rfl|rfl<;>rfl
theorem sp_copy{K:Value->World->Prop}(p:l.length<=100000)(c:ed w A (l.flatMap ji))(a:∀v w',OwS w w' v l->K v w'):dF prog (Builtin.append_ #[26,26] 26 #[.slice none 0 0,.slice A l.length k]) w K:=by
 obtain⟨i,d,e,f,hb⟩:=inf_39;refine iI (base:=w.heap.size) (xs:= []) (n:=0) (news:=l.flatMap ji) (m:=l.length) Tryz.underlying26 d e f rfl dy (World.ownsRow_nil _ _ _ _) (ja nJ l) (λj u g=>c j u g) (spC_one l) (by unfold maxLen;omega) (by rw[hb];omega) (cy _) λx1 w1 b o=>?_;rw[List.nil_append,cV]at b;exact a x1 w1 ⟨b,(ad.refl _ _).grown o λk a=>by simp[Value.ownBlock]at a⟩
theorem OwS.rd(O:OwS W w v l):∃A c,v= .slice A l.length c/\ed w A (l.flatMap ji):=by
 obtain⟨A,c,e,r,_⟩:=aG O.own;exact⟨A,c,e,r⟩
theorem sp_row(O:OwS W w v l){i:Nat}{s:dR}(c:l[i]? =some s):∃g,ai prog (Instr.indexAt 26 v (bS i))=some (.pointer (some ⟨g,i*20,none⟩))/\(∀ k,k<20->ao (hp w g) (i*20+k)=(ji s)[k]?)/\
  ∀(t:TypeId) (x:Value) (n k:Nat) (d:dR) (L:World->Prop),(Tryz.prog.info? t).map (·.size)=some n->(x.cells.size=n/\x.cells.toList.all (·.oneCell')=true/\0<n)->k+n<=20->ji d=(ji s).take k++x.cells.toList++(ji s).drop (k+n)->
   (∀ w',OwS W w' v (l.set i d)->L w')->dE prog (Instr.storeAt t (.pointer (some ⟨g,i*20+k,none⟩)) x) w L:=by
 have p:=(ce.1 c).1;obtain⟨g,kk,rfl,hb,f,q,_,r⟩:=mK (P:=prog) (t:=26) (j:= .i64) (i:=(i:Int)) O.own Tryz.underlying26 sz_39 dy dy;rw[cq]at f r;refine⟨g,f,λk b=>?_,λt x n k d L u one e y b=>?_⟩
 ·have:=q k b;rw[cq]at this;rw[this];exact ba nJ l i s c k b
 ·have a:x.cells.toList.length=n:=by rw[Array.length_toList];exact one.1
  obtain⟨m,z⟩:=rN (vs:=x.cells.toList) (o:=i*20+k) O.own hb (by rw[a];omega);rw[uy nJ (by rw[a];exact e) (by rw[a];exact y) l i c]at m;rw[mh u one.1 one.2.1 one.2.2 (by rw[<- a];exact z)];refine b _ ⟨by rw[cE];exact m,O.ch.put (.inr ?_) _ _⟩;exact(O.own.lt g hb).1
end
section
variable{W w w':World}{v:Value}{l s t:List dR}{A B As At:Option Addr}{k kb n cs ct q:Nat}{c:cP}{xs ps:List Int}
theorem l_finds(k:s.length<=1000)(g:t.length<=1000)(l:ed w As (s.flatMap ji))(hT:ed w At (t.flatMap ji))(e:hp w q=some (.cells (dK c).toArray 25))(a most:Int)(i:most<=9223372036854775807):
  P3_0 (bS a) (bS most) (.bool true) (bU q) (.slice As s.length cs) (.slice At t.length ct) w λv w'=>v= .bool true/\ad [] w w':=by
 apply L3_0_ok;have j:=(ad.refl [] w).drew;have f:hp w.drew q=some (.cells (dK c).toArray 25):=e;simp only[L3_0,fW f,ac,zS];refine mu (c_says26 k (l.an j.below) c i) ?_;rintro _ w1 rfl m;have b:=j.trans m;simp only[fW (b.at e (by simp)),ac,zS];refine mu (c_says26 g (hT.an b.below) c i) ?_;rintro _ w2 rfl n;have d:=b.trans n;simp only[fW (d.at e (by simp)),ac,zS];refine callX_step (mS a 12 w2 dy dy) ?_;have p:a%12<12:=Int.emod_lt_of_pos _ dy;refine mu (c_says26 g (hT.an d.below) c dy) ?_;rintro _ r rfl o;simp only[];exact⟨by first|rfl|trivial,d.trans o⟩
theorem c_finds(hA:rr .i64 W A xs)(hB:rr .i64 W B ps)(n d o most:Int):
  aa prog 3 [bS n,.slice A xs.length k,.slice B ps.length kb,bS d,bS o,bS most] W λv w'=>v= .bool true/\ad [] W w':=by
 apply F3_ok;rw[F3];refine(c_first26 W).mono ?_;rintro _ w1 ⟨rfl,G⟩;by_cases P:(xs.length:Int)>100
 ·simp only[aK,iH,P,decide_true,ac,zS];exact⟨by first|rfl|trivial,G⟩
 by_cases h2:(ps.length:Int)>120
 ·simp only[aK,iH,P,h2,decide_true,decide_false,ac,zS];exact⟨by first|rfl|trivial,G⟩
 simp only[aK,iH,P,h2,decide_false,ac,zS];refine(c_played26 (mo:=9) (hA.an G.below) (hB.an G.below) dy dy n).mono ?_;rintro _ w2 ⟨c,ops,p,As,cs,PL,rfl,hS,c2⟩;have a5:(oZ c (iW c ops) p).l.length<=500:=by have:=PL.inv.l;have:=PL.pl;omega
 generalize (oZ c (iW c ops) p).l=s at*;simp only[jk,jm,ac,al_25];generalize T:World.alloc _ _=H;have c3:ad [] w2 H:=by rw[<- T];exact(ad.refl _ _).alloc _
 have I:hp H w2.heap.size=some (.cells (dK (0,0,0,0,0,0)).toArray 25):=by rw[<- T,af,bX rfl];rfl
 clear T;obtain⟨q,Q⟩:∃q,q=w2.heap.size:=⟨_,rfl⟩
 rw[<- Q]at I⊢;rw[st_25 rfl rfl (by rw[I];rfl) (by rw[I];rfl),I,ar];have C:ad [] w2 (Ev.put H q (dK c).toArray 25):=c3.put (.inr dy) _ _;have q4:hp (Ev.put H q (dK c).toArray 25) q=some (.cells (dK c).toArray 25):=aq (az I) _ _;generalize Ev.put H q (dK c).toArray 25=U at*;have V:=(G.trans c2).trans C;refine(mS most 400 U dy dy).step ?_;have a6:most%400<400:=Int.emod_lt_of_pos _ dy;generalize most%400=mo at*;refine sp_copy (k:=cs) dy (hS.an C.below) λv u R=>?_;have fin:∀(t:List dR) (f:World),t.length=s.length->OwS U f v t->P3_0 (bS o) (bS mo) (.bool true) (bU q) (.slice As s.length cs) v f λv w'=>v= .bool true/\ad [] W w':=λt f ht j=>by
  obtain⟨At,ct,rfl,rt⟩:=j.rd;refine Part.mono (l_finds dy dy ((hS.an C.below).an j.ch.below) rt (j.ch.at q4 (by simp)) o mo dy) λv w' Q=>?_;exact⟨Q.1,(V.trans j.ch).trans Q.2⟩
 obtain⟨At,ct,ev,_⟩:=R.rd;have y:ai prog (Builtin.len_ #[26] 3 #[v])=some (bS s.length):=by rw[ev];exact ff
 by_cases J:(s.length:Int)>0
 ·simp only[y,ac,iH,J,decide_true,zS];refine(mS d s.length u dy dy).step ?_;have X:=Int.emod_nonneg d (b:=(s.length:Int)) dy;have a7:=Int.emod_lt_of_pos d (b:=(s.length:Int)) J;obtain⟨i,ei⟩:∃i:Nat,d%(s.length:Int)=i:=⟨_,(du X).symm⟩
  rw[ei];have Y:i<s.length:=dy;obtain⟨a,ha⟩:∃a,s[i]? =some a:=⟨_,bZ Y⟩
  obtain⟨g,r,rd,st⟩:=sp_row R ha;refine(mS o 7 u dy dy).step ?_;have a8:=Int.emod_nonneg o (b:=7) dy;have a9:=Int.emod_lt_of_pos o (b:=7) dy;generalize o%7=z at*;have Z:(7:Int)≠0:=dz;have D:∀(a m:Int) (w:World) {K:Value->World->Prop},0<m->m<=1000->(∀ x:Int,K (bS x) w)->aa prog 11 [bS a,bS m] w K:=λa m w K J P hk=>(mS a m w J dy).step (hk _);have one:∀(a':dR) (f:World),OwS U f v (s.set i a')->P3_0 (bS o) (bS mo) (.bool true) (bU q) (.slice As s.length cs) v f λv w'=>v= .bool true/\ad [] W w':=λa' f j=>fin _ f (by rw[cE]) j;by_cases z0:z=0
  ·have e:(z==0)=true:=by rw[z0];rfl
   simp only[e,m3 Z,ac,zS];refine D _ 9 u dy dy λx=>?_;simp only[r,jg,mz,ac,Nat.add_zero];exact st 30 (bS x) 1 12 {a with re:=(x,a.re.2)} _ sz_30 ⟨rfl,rfl,dz⟩ dy rfl λf j=>one _ f j
  have E:(z==0)=false:=cN z0;by_cases z1:z=1
  ·have e:(z==1)=true:=by rw[z1];rfl
   have lv:ao (hp u g) (i*20+12+7)=some (bT a.re.2.2.2):=rd 19 dy;simp only[E,e,r,jg,fa_35_3,bx,lv,aj,ac,zS];exact st 33 (bT (IntKind.u64.wrap (a.re.2.2.2+1))) 1 19 {a with re:=(a.re.1,a.re.2.1,a.re.2.2.1,IntKind.u64.wrap (a.re.2.2.2+1))} _ sz_33 ⟨rfl,rfl,dz⟩ dy rfl λf j=>one _ f j
  have F:(z==1)=false:=cN z1;by_cases z2:z=2
  ·have e:(z==2)=true:=by rw[z2];rfl
   have lv:ao (hp u g) (i*20+12+6)=some (bS a.re.2.2.1):=rd 18 dy;simp only[E,F,e,r,jg,fa_35_2,ag,lv,aZ,ac,zS];exact st 3 (bS (IntKind.i64.wrap (1-a.re.2.2.1))) 1 18 {a with re:=(a.re.1,a.re.2.1,IntKind.i64.wrap (1-a.re.2.2.1),a.re.2.2.2)} _ aE ⟨rfl,rfl,dz⟩ dy rfl λf j=>one _ f j
  have L:(z==2)=false:=cN z2;by_cases z3:z=3
  ·have e:(z==3)=true:=by rw[z3];rfl
   have lv:ao (hp u g) (i*20+12+1+3)=some (bS a.re.2.1.2.2.2.1):=rd 16 dy;simp only[E,F,L,e,r,jg,lh,ib,ag,lv,aj,ac,zS];exact st 3 (bS (IntKind.i64.wrap (a.re.2.1.2.2.2.1+1))) 1 16 {a with re:=(a.re.1,(a.re.2.1.1,a.re.2.1.2.1,a.re.2.1.2.2.1,IntKind.i64.wrap (a.re.2.1.2.2.2.1+1),a.re.2.1.2.2.2.2),a.re.2.2)} _ aE ⟨rfl,rfl,dz⟩ dy rfl λf j=>one _ f j
  have S:(z==3)=false:=cN z3;by_cases z4:z=4
  ·have e:(z==4)=true:=by rw[z4];rfl
   simp only[E,F,L,S,e,m3 Z,ac,zS];refine D _ 6 u dy dy λx=>?_;simp only[r,jf,iM,ac];exact st 3 (bS x) 1 4 {a with op:=(a.op.1,a.op.2.1,x,a.op.2.2.2)} _ aE ⟨rfl,rfl,dz⟩ dy rfl λf j=>one _ f j
  have e4:(z==4)=false:=cN z4;by_cases z5:z=5
  ·have e:(z==5)=true:=by rw[z5];rfl
   have lv:ao (hp u g) (i*20+11)=some (bS a.rs):=rd 11 dy;by_cases hr:a.rs<0
   ·simp only[E,F,L,S,e4,e,r,lj,fa_39_5,gS,jg,ag,lv,aU,hr,decide_true,bd_rs_,ac,zS];refine st 3 (bS (-1)) 1 9 {a with pt:= -1} _ aE ⟨rfl,rfl,dz⟩ dy rfl λf j=>?_;have a1:(s.set i {a with pt:= -1})[i]? =some {a with pt:= -1}:=List.getElem?_set_self Y;obtain⟨g6,M,_,a2⟩:=sp_row j a1;rw[r]at M;cases M;try simp only[r,fa_39_5,ac]
    refine a2 3 (bS (-1)) 1 10 {a with pt:= -1,bk:= -1} _ aE ⟨rfl,rfl,dz⟩ dy rfl λw7 O7=>?_;rw[List.set_set]at O7;have a3:(s.set i {a with pt:= -1,bk:= -1})[i]? =some {a with pt:= -1,bk:= -1}:=List.getElem?_set_self Y;obtain⟨g7,O,_,a4⟩:=sp_row O7 a3;rw[r]at O;cases O;try simp only[r,jg,ac]
    refine a4 35 (.agg (oH lV)) 8 12 {a with pt:= -1,bk:= -1,re:=lV} _ sz_35 ⟨rfl,rfl,dz⟩ dy rfl λw8 O8=>?_;rw[List.set_set]at O8;exact one _ w8 O8
   ·simp only[E,F,L,S,e4,e,r,gS,ag,lv,aU,hr,decide_false,ac,zS];exact fin s u rfl R
  have e5:(z==5)=false:=cN z5;simp only[E,F,L,S,e4,e5,m3 Z,ac,zS];refine D _ 20 u dy dy λx=>?_;simp only[r,jf,bm,ac];exact st 3 (bS x) 1 5 {a with op:=(a.op.1,a.op.2.1,a.op.2.2.1,x,a.op.2.2.2.2)} _ aE ⟨rfl,rfl,dz⟩ dy rfl λf j=>one _ f j
 ·simp only[y,ac,iH,J,decide_false,zS];exact fin s u rfl R
theorem lawFindsT{W:World}(e:Int)(_:(Lit.int .i64 e).wf=true)(A:Option Addr)(n c:Nat)(zs:List Int)(h:InInts .i64 W A n c zs)(k:Option Addr)(f l:Nat)(a:List Int)(p:InInts .i64 W k f l a)(g:Int)(_:(Lit.int .i64 g).wf=true)(i:Int)(_:(Lit.int .i64 i).wf=true)(j:Int)(_:(Lit.int .i64 j).wf=true):
  aa prog 3 [bS e,.slice A n c,.slice k f l,bS g,bS i,bS j] W λv w'=>v= .bool true/\Below W.heap.size W w':=by
 obtain⟨m,o,r,_,_⟩:=h.rd;obtain⟨b,d,q,_,_⟩:=p.rd;generalize zs.take n=xs at m o;generalize a.take f=s at b d;subst o d;exact(c_finds m b e g i j).mono λ_ _ h=>⟨h.1,h.2.below⟩
end
end Go.Proofs.YtnpflajdbchghaaGreat
