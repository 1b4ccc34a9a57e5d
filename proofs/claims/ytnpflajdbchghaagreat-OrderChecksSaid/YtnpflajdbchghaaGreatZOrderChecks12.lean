/- Parts of the proof of OrderChecks, one behind the other. Conditions: none. -/
import Derived.Test.YtnpflajdbchghaaGreatZOrderChecks11
set_option linter.unusedSimpArgs false
set_option linter.unusedVariables false
set_option maxHeartbeats 4000000
set_option maxRecDepth 100000
noncomputable section
namespace Go.Proofs.YtnpflajdbchghaaGreat
open Tryz(f26 f55 f57 f98 func57 prog underlying22)
open Go Ev Go.RowKit
section
variable{W w w':World}{F F':Fp}{A:Option Addr}{E:List dP}{l:List di}{g K:Nat}{m:dI}
theorem ev_at2{t e:TypeId}(f:Tryz.prog.underlying t=some (.slice e))(g:(Tryz.prog.info? e).map (·.size)=some 3){w:World}{A:Option Addr}{L:List dP}{c i b o:Nat}(h:fp w A (L.flatMap gR))(j:i<L.length)
  (q:ai prog (Instr.indexAt t (.slice A L.length c) (bN i))=some (.pointer (some ⟨b,o,none⟩))):AtE w b o L[i]:=by
 obtain⟨k,o',d,a⟩:=ev_at (c:=c) f g h j;rw[q]at d;cases d;exact a
theorem l_refCheck(hl:l.length<=1000){As:Option Addr}{cs:Nat}(hA:fp W As (l.flatMap jS)){ce:Nat}(T:EvOk l E)(hE:E.length<=100000):∀(d k:Nat) (w:World) (m:dI) (F:Fp) (K:Nat),ad [] W w->jx w g (aL m) F->Wf m K->Wn m K->(∀ k,F k->W.heap.size<=k)->EvR w F A E->K<=k->k+d=E.length->
  P49_0 (.slice As l.length cs) (bS g) (.slice A E.length ce) (bN k) w λv w'=>v= .tuple #[bN (ckV l (E.drop k) m).1,.bool (ckV l (E.drop k) m).2]/\ad [] W w':=by
 intro d;induction d with
 |zero=>
  intro k w m F K L I R p M t U hk;apply L49_0_ok;have:¬((k:Int)<E.length):=dB;simp -implicitDefEqProofs only[L49_0,len_109,zS,this];rw[dk dB];exact⟨rfl,L⟩
 |succ d ih=>
  intro k w m F K L I R p M t U hk;apply L49_0_ok;have V:(k:Int)<E.length:=dB;have e:k<E.length:=dB;obtain⟨b,o,q,q2⟩:=ev_at (c:=ce) Tryz.underlying109 nD t.rd e;obtain⟨i,X,z⟩:=T E[k] (List.getElem_mem e);have Y:=hA.ao L.below;obtain⟨bs,os,r1,r2⟩:=iQ (c:=cs) (j:= .i64) (i:=i) Y X;have O:=q2.c1;rw[z]at O;simp -implicitDefEqProofs only[L49_0,len_109,zS,V,q,fa_111_1,ag,O,r1,r2.ld,qK];rw[st_39 (by rfl) (by rfl) (by rw[af,bU rfl];rfl) (by rw[af,bU rfl];rfl),af,bU rfl];simp -implicitDefEqProofs only[au];generalize B:put (w.alloc _) w.heap.size (iW l[i]) 39=w1;have Z:ad [] w w1:=by rw[<- B];exact((ad.refl _ _).alloc _).put (.inr (cy _)) _ _
  have b9:hp w1 w.heap.size=some (.cells (iW l[i]) 39):=by rw[<- B,bm,bU rfl,bU (by simp)]
  clear B;have b1:¬F w.heap.size:=λh=>by have:=eR.lt I (gp _) _ h;omega
  generalize w.heap.size=g9 at*;have a7:=L.trans Z;have C:E.drop k=E[k]::E.drop (k+1):=List.drop_eq_getElem_cons e;have P:ckV l (E.drop k) m=if(rY l E[k] l[i] m).1=true then ckV l (E.drop (k+1)) (rY l E[k] l[i] m).2 else(E[k].2.1,false):=by
   rw[C,ckV,z,cj,bX X]
  rw[P];clear P;have y:=(ev_at2 Tryz.underlying109 nD (t.ao Z).rd e q).c1;rw[z]at y;simp -implicitDefEqProofs only[y,zS];refine(oJ (c:=cs) dB (hA.ao a7.below) (i:Int)).mono ?_;rintro _ w2 ⟨rfl,c2⟩;rw[pN X];simp -implicitDefEqProofs only[oB,z_hn];rw[tk (by rw[af,bU rfl]) rfl];generalize D:put (w2.alloc _) w2.heap.size (ba (fm l l[i])).toArray 32=S;have c3:ad [] w2 S:=by rw[<- D];exact((ad.refl _ _).alloc _).put (.inr (cy _)) _ _
  have Q:hp S w2.heap.size=some (.cells (ba (fm l l[i])).toArray 32):=by rw[<- D,bm,bU rfl,bU (by simp)]
  clear D;generalize w2.heap.size=a8 at*;have G:=(c2.trans c3).at b9 (by simp);have H:=Z.trans (c2.trans c3);have u:=L.trans H;have I3:=I.ao H;have r:=t.ao H;have x:=(ev_at2 Tryz.underlying109 nD r.rd e q).c2;have wr:=ap (n:=(k:Int)+1) dB dB;cases hb:E[k].2.2 with
  |true=>
   rw[hb]at x;have h0:an (hp S a8) (0+0)=some (bN (fm l l[i]).1):=by rw[Q,aN];rfl
   simp -implicitDefEqProofs only[q,zS,fa_111_2,bu,ag,az,x,h0];have a9:((aL m).state.length:Int)=(aL m).c.2.2.2.1:=by
    have:=p.cs;simp[aL,this]
   refine(c_rBack I3 a9 _).mono ?_;rintro _ w4 ⟨rfl,F4,J,u4⟩;rw[rf_back]at J⊢;have hx:rY l E[k] l[i] m=nK m (fm l l[i]).1:=by rw[rY,bU hb]
   rw[<- hx]at J⊢;have s:=chg_updP u u4 M;have a:=r.upd u4;cases hr:(rY l E[k] l[i] m).1 with
   |true=>
    have f:=(ev_at2 Tryz.underlying109 nD a.rd e q).c2;rw[hb]at f;simp -implicitDefEqProofs only[zS,q,fa_111_2,az,f,aj,wr,if_true];exact ih (k+1) w4 _ F4 (K+1) s J (ckX_wf R) (ckX_wn p dB) (updP_new u u4 M) a dB dB
   |false=>
    have f:=(ev_at2 Tryz.underlying109 nD a.rd e q).c1;simp -implicitDefEqProofs only[zS,q,fa_111_1,ag,f,if_false,Bool.false_eq_true];exact⟨trivial,s⟩
  |false=>
   rw[hb]at x;have h0:an (hp S g9) (0+0)=some (bN l[i].wk):=sp_c G 0;simp -implicitDefEqProofs only[q,zS,fa_111_2,jq,jr,hH,ag,az,x,h0,(rQ G).ldop,iU Q,At.ldre G];refine(c_rDo I3 R p dB _ _ _ _).mono ?_;rintro _ w4 ⟨rfl,F4,J,u4⟩;have hx:rY l E[k] l[i] m=doV m l[i].wk l[i].op (fm l l[i]) l[i].re:=by rw[rY,bV (by rw[hb];simp)]
   rw[<- hx]at J⊢;have s:=chg_updP u u4 M;have a:=r.upd u4;cases hr:(rY l E[k] l[i] m).1 with
   |true=>
    simp -implicitDefEqProofs only[zS,aj,wr,if_true];exact ih (k+1) w4 _ F4 (K+1) s J (ckX_wf R) (ckX_wn p dB) (updP_new u u4 M) a dB dB
   |false=>
    have f:=(ev_at2 Tryz.underlying109 nD a.rd e q).c1;simp -implicitDefEqProofs only[zS,q,fa_111_1,ag,f,if_false,Bool.false_eq_true];exact⟨trivial,s⟩
theorem evs_len2(l:List di):(evs l).length<=2*l.length:=by
 rw[evs,sortR,sortR_len];have:=oH l 0;unfold nQ;simp only[cY];omega
theorem c_refCheck(r:l.length<=1000){As:Option Addr}{cs:Nat}(e:fp w As (l.flatMap jS))(c:cx):aa prog 49 [.agg (dN c).toArray,.slice As l.length cs] w λv w'=>v= .tuple #[bN (fG c l).1,.bool (fG c l).2]/\ad [] w w':=by
 apply F49_ok;simp -implicitDefEqProofs only[F49,ak,aq];generalize f:w.alloc _=w1;have s:ad [] w w1:=by rw[<- f];exact(ad.refl _ _).alloc _
 have j:hp w1 w.heap.size=some (.cells (dN c).toArray 25):=by rw[<- f,af,bU rfl]
 clear f;simp -implicitDefEqProofs only[fM j,ac];refine(c_cfMay c w1).mono ?_;rintro _ w2 ⟨rfl,m⟩;have b:=s.trans m;cases d:jw c with
 |false=>
  simp -implicitDefEqProofs only[zS];have:fG c l=(0,false):=by rw[fG,bV (by rw[d];simp)]
  rw[this];exact⟨rfl,b⟩
 |true=>
 simp -implicitDefEqProofs only[zS];refine(c_RMayRef dB ⟨As,cs,rfl,e.ao b.below⟩).mono ?_;rintro _ t ⟨rfl,n⟩;have a:=b.trans n;cases hb:mI l with
 |false=>
  simp -implicitDefEqProofs only[zS];have:fG c l=(0,false):=by rw[fG,bV (by rw[hb];simp)]
  rw[this];exact⟨rfl,a⟩
 |true=>
  have u:=(m.trans n).at j (by simp);simp -implicitDefEqProofs only[zS,fM u];refine(c_rNew c false d t).mono ?_;rintro _ G ⟨g,F,rfl,o,I,x⟩;refine(c_refSort (c:=cs) dB (e.ao (a.trans o).below)).mono ?_;rintro v y ⟨⟨z,H,rfl,B,_,C⟩,q⟩;have:fG c l=ckV l ((evs l).drop 0) (qR c false):=by rw[fG,bU ⟨d,hb⟩];rfl
  rw[this];have i:=(a.trans o).trans q;refine l_refCheck (g:=g) (A:=z) r e (evs_ok l) (by have:=evs_len2 l;omega) (evs l).length 0 y (qR c false) F 0 i (I.ao q) (wf_new d false) (wn_new d false) (λk D=>by have:=x k D;have:=a.size;omega)
   ⟨B,λp hp _ E=>by have J:=eR.lt I (gp _) _ E;have:=C p hp;omega⟩ (cy _) dB
theorem rZ(H:l.length<=300){As:Option Addr}{cs:Nat}(i:fp w As (l.flatMap jS))(c:cx):aa prog 22 [.agg (dN c).toArray,.slice As l.length cs] w λv w'=>v= .tuple #[bN (fG c l).1,.bool (fG c l).2]/\ad [] w w':=by
 apply F22_ok;simp -implicitDefEqProofs only[F22,ak,aq];generalize j:w.alloc _=w1;have r:ad [] w w1:=by rw[<- j];exact(ad.refl _ _).alloc _
 have s:hp w1 w.heap.size=some (.cells (dN c).toArray 25):=by rw[<- j,af,bU rfl]
 clear j;simp -implicitDefEqProofs only[fM s,ac];refine(c_mNew c w1).mono ?_;rintro v w2 ⟨t,f⟩;have b:=r.trans t;rcases f with⟨d,rfl⟩|⟨d,g,F,rfl,I,x⟩
 ·simp -implicitDefEqProofs only[kG,kH,zS,show((1:Int)!=0)=true from rfl];have:fG c l=(0,false):=by rw[fG,bV (by rw[d];simp)]
  rw[this];exact⟨rfl,b⟩
 have y:=t.at s (by simp);simp -implicitDefEqProofs only[kG,kH,zS,fM y];refine(c_layMay c w2).mono ?_;rintro _ J ⟨rfl,m⟩;simp -implicitDefEqProofs only[d,zS];have e:=b.trans m;refine(c_RMay dB ⟨As,cs,rfl,i.ao e.below⟩).mono ?_;rintro _ K ⟨rfl,n⟩;have a:=e.trans n;cases hb:mI l with
 |false=>
  simp -implicitDefEqProofs only[zS];have:fG c l=(0,false):=by rw[fG,bV (by rw[hb];simp)]
  rw[this];exact⟨rfl,a⟩
 |true=>
  simp -implicitDefEqProofs only[zS];refine(c_oSort (c:=cs) dB (i.ao a.below)).mono ?_;rintro v z ⟨f,u⟩;rw[bU hb]at f;obtain⟨B,L,rfl,C,_,D⟩:=f;have:fG c l=ckV l ((evs l).drop 0) (qR c false):=by rw[fG,bU ⟨d,hb⟩];rfl
  rw[this];have o:=a.trans u;have q:=m.trans (n.trans u);simp -implicitDefEqProofs only[tH,ac];refine l_oCheck (g:=g) (A:=B) dB i (evs_ok l) (by have:=evs_len2 l;omega) (evs l).length 0 z (qR c false) F 0 o (I.ao q) (wf_new d false) (λk E=>by have:=x k E;have:=r.size;omega)
   ⟨C,λp hp _ G=>by have M:=eR.lt I (gO _) _ G;have:=D p hp;have:=(m.trans n).size;omega⟩ (cy _) dB
end
abbrev SkO:=Bool×List Int×Int×Bool
section
variable{w:World}{sk:Nat}{A Ah:Option Addr}{n cs ch:Nat}{pv:Value}{t top:Int}{mn:Bool}{l:List di}{put:List Int}{e:TypeId}
end
def hdI(w:Int):Int:=w%4294967296-1
def hdG(w:Int):Int:=w/4294967296
def putHd(i t:Int):Int:=if -1<=i/\i<4294967295/\0<=t/\t<=4294967295 then t*4294967296+(i+1)else 0
def nextT(t:Int):Int:=if t<0\/4294967295<=t then 0 else t+1
def r5(w i:Int):Int:=putHd i (nextT (hdG w))
structure RtV where
 gen:Int
 mark:Int
 cls:Int
 off:Int
def lB(r:RtV):Int:=if(0<=r.gen/\r.gen<=4294967295)/\(0<=r.mark/\r.mark<=4097)/\(0<=r.cls/\r.cls<=3)/\(0<=r.off/\r.off<=1024)then r.gen*4294967296+r.mark*65536+r.cls*4096+r.off else 0
def aP(w:Int):RtV:=⟨w/4294967296,w/65536%65536,w/4096%16,w%4096⟩
def ma(r:RtV)(gen:Int):Bool:=decide (1<=r.mark)&&decide (r.gen=gen)
def ed(r:RtV):Int:=if r.mark<2 then -1 else r.mark-2
def fE(w:Int):Int:=if w>4611686018427387903 then 4611686018427387903 else w
def pinW(e:Int):Int:=if 0<=e/\e<=4611686018427387903 then 2*e+1 else 0
abbrev cW(c:cx):Nat:=c.1.toNat
abbrev cC(c:cx):Nat:=c.2.1.toNat
abbrev cK(c:cx):Nat:=c.2.2.1.toNat
abbrev cS(c:cx):Nat:=c.2.2.2.1.toNat
def fH(c:cx)(w:Nat):Nat:=3+w
def iI(c:cx)(s:Nat):Nat:=3+cW c+s
def aSl(c:cx)(s:Nat):Nat:=3+cW c+cS c+s
def aLk(c:cx)(k:Nat):Nat:=3+cW c+2*cS c+k
def aWd(c:cx)(k i:Nat):Nat:=3+cW c+2*cS c+cC c+k*cK c+i
def kI(c:cx):Nat:=3+cW c+2*cS c+cC c+cC c*cK c
abbrev bd:=List Int
def cf(m:bd)(a:Nat):Int:=m.getD a 0
structure iF where
 head:Nat
 dV:Nat
 n:Nat
def bB(c:cx):iF:=⟨0,aLk c 0,cC c⟩
def dF(c:cx):iF:=⟨1,aSl c 0,cS c⟩
def pQ(s:iF)(w:Int):Int:=if(s.n:Int)<=hdI w then -1 else hdI w
def gC(s:iF)(w:Int):Int:=if(s.n:Int)<w then -1 else w-1
structure PuV where
 l:List Int
 at':Nat
 old:Int
 done:Bool
def puNew(l:List Int):PuV:=⟨l,0,0,decide (l.length=0)⟩
def eQ(s:iF)(m:bd)(p:PuV):bd×PuV:=
 if p.done then(m,p)
 else if p.at'+1<p.l.length then(m.set (s.dV+(p.l.getD p.at' 0).toNat) (p.l.getD (p.at'+1) 0+1),{p with at':=p.at'+1})
 else if p.at'+1=p.l.length then(m,{p with old:=cf m s.head,at':=p.at'+1})
 else if p.at'=p.l.length then(m.set (s.dV+(p.l.getD (p.l.length-1) 0).toNat) (pQ s p.old+1),{p with at':=p.at'+1})
 else if cf m s.head=p.old then(m.set s.head (r5 p.old (p.l.getD 0 0)),{p with done:=true,at':=p.l.length-1})
 else(m,{p with done:=false,at':=p.l.length-1})
structure PoV where
 ni:Int
 at':Nat
 deep:Int
 old:Int
 l:List Int
 done:Bool
def poNew(a:Int):PoV:=⟨min (max a 1) 8,0,0,0, [],false⟩
def dK(s:iF)(m:bd)(p:PoV):bd×PoV:=
 if p.done then(m,p)
 else if p.at'=0 then
  if pQ s (cf m s.head)<0 then(m,{p with old:=cf m s.head,l:= [],done:=true})
  else(m,{p with old:=cf m s.head,l:= [pQ s (cf m s.head)],at':=1})
 else if p.at'=1 then
  if 0<=gC s (cf m (s.dV+(p.l.getD (p.l.length-1) 0).toNat))/\(p.l.length:Int)<p.ni then
   (m,{p with deep:=gC s (cf m (s.dV+(p.l.getD (p.l.length-1) 0).toNat)),l:=p.l++ [gC s (cf m (s.dV+(p.l.getD (p.l.length-1) 0).toNat))]})
  else(m,{p with deep:=gC s (cf m (s.dV+(p.l.getD (p.l.length-1) 0).toNat)),at':=2})
 else if cf m s.head=p.old then(m.set s.head (r5 p.old p.deep),{p with done:=true,at':=0})
 else(m,{p with done:=false,at':=0})
def dS(p:PoV):List Int:=if p.done then p.l else []
structure r8 where
 tag:List Int
 l:List (List Int)
 last:Int
def lbNew:r8:=⟨[0,0,0], [[], [], []],-1⟩
def eH(b:r8)(tag:Int)(a:List Int):List Int×Bool×r8:=
 if a.length=0\/tag<0\/4611686018427387903<tag\/tag<b.last then([],false,b)
 else
  if 0<(b.l.getD (tag%3).toNat []).length/\b.tag.getD (tag%3).toNat 0<tag then
   (b.l.getD (tag%3).toNat [],true,⟨b.tag.set (tag%3).toNat tag,b.l.set (tag%3).toNat a,tag⟩)
  else([],true,⟨b.tag.set (tag%3).toNat tag,b.l.set (tag%3).toNat (b.l.getD (tag%3).toNat []++a),tag⟩)
def bW(b:r8)(now:Int)(best:Int)(k:Nat):Int:=
 if 0<(b.l.getD k []).length/\b.tag.getD k 0<=now-2/\(best<0\/b.tag.getD k 0<b.tag.getD best.toNat 0)then k else best
def ke(b:r8)(now:Int):Int:=bW b now (bW b now (bW b now (-1) 0) 1) 2
def sc(b:r8)(now:Int):Bool:=decide (2<=now)&&decide (0<=ke b now)
def eY:Nat->r8->Int->List Int->List Int×r8
 |0,b,_,a=>(a,b)
 |f+1,b,now,a=>if sc b now then eY f {b with l:=b.l.set (ke b now).toNat []} now (a++b.l.getD (ke b now).toNat [])else(a,b)
def jh(b:r8):Nat:=(b.l.getD 0 []).length+(b.l.getD 1 []).length+(b.l.getD 2 []).length
structure lC where
 st:List Int
 lb:r8
def suNew:lC:=⟨[],lbNew⟩
def qA(s:lC)(l:List Int):lC:={s with st:=s.st++l}
def nV(s:lC)(tag:Int)(l:List Int):lC:=⟨s.st++(eH s.lb tag l).1,(eH s.lb tag l).2.2⟩
def fI(s:lC)(now:Int):lC:=⟨s.st++(eY 4 s.lb now []).1,(eY 4 s.lb now []).2⟩
def overN(a:Int)(s:lC):Nat:=s.st.length-a.toNat
def fg(a:Int)(s:lC):List Int×lC:=(s.st.take (overN a s),{s with st:=s.st.drop (overN a s)})
def m0(s:lC):List Int×lC:=(s.st,{s with st:= []})
structure TkV where
 at':Nat
 chunk:Int
 seen:Int
 p:PoV
 done:Bool
def eE(s:lC)(t:TkV):lC×TkV:=
 if s.st.length=0 then(s,t)else({s with st:=s.st.take (s.st.length-1)},{t with chunk:=s.st.getD (s.st.length-1) 0,done:=true})
def tkPop(c:cx)(t:TkV):TkV:={t with at':=1,p:=poNew c.2.2.2.2.2}
def jU(c:cx)(s:lC):lC×TkV:=
 let r:=eE s ⟨0,-1,-1,poNew 0,false⟩
 if r.2.done=false/\jh r.1.lb=0 then(r.1,tkPop c r.2)else r
def eV(c:cx)(m:bd)(s:lC)(t:TkV):bd×lC×TkV:=
 if t.done then(m,s,t)
 else if t.at'=0 then
  let r:=eE (fI s (fE (cf m 2))) {t with seen:=fE (cf m 2)}
  (m,if r.2.done then r else(r.1,tkPop c r.2))
 else
  let r:=dK (bB c) m t.p
  if r.2.done=false then(r.1,s,{t with p:=r.2})
  else if(dS r.2).length=0 then(r.1,s,{t with p:=r.2,done:=true})
  else(r.1,qA s ((dS r.2).drop 1),{t with p:=r.2,chunk:=(dS r.2).getD 0 0,done:=true})
structure GiV where
 p:PuV
 l:List Int
 done:Bool
def ir(l:List Int):GiV:=⟨puNew l,l,decide (l.length=0)⟩
def cO(c:cx)(m:bd)(g:GiV):bd×GiV:=
 if g.done then(m,g)else((eQ (bB c) m g.p).1,{g with p:=(eQ (bB c) m g.p).2,done:=(eQ (bB c) m g.p).2.done})
structure CrV where
 cls:Int
 at':Nat
 steps:Int
 point:Int
 slot:Int
 gen:Int
 p:PoV
 root:RtV
 code:Int
 done:Bool
def crNew(cls:Int):CrV:=⟨min (max cls 0) 3,0,0,0,0,0,poNew 1,⟨0,0,0,0⟩,0,false⟩
def eF(c:cx)(m:bd)(x:CrV):bd×CrV:=
 if x.done then(m,x)
 else if x.at'=0 then
  let r:=dK (dF c) m x.p
  if r.2.done=false then(r.1,{x with steps:=x.steps+1,p:=r.2})
  else if(dS r.2).length=0 then(r.1,{x with steps:=x.steps+1,p:=r.2,point:=x.steps+1,code:=7,done:=true})
  else(r.1,{x with steps:=x.steps+1,p:=r.2,point:=x.steps+1,slot:=(dS r.2).getD 0 0,at':=1})
 else if x.at'=1 then(m,{x with steps:=x.steps+1,root:=aP (cf m (iI c x.slot.toNat)),at':=2})
 else(m.set (iI c x.slot.toNat) (lB ⟨aY x.root.gen,1,x.cls,0⟩),{x with steps:=x.steps+1,gen:=aY x.root.gen,done:=true})
structure LkV where
 slot:Int
 gen:Int
 off:Int
 code:Int
 done:Bool
def qO(slot gen:Int):LkV:=⟨slot,gen,0,0,false⟩
def nW(c:cx)(m:bd)(x:LkV):LkV:=
 if x.done then x
 else if ma (aP (cf m (iI c x.slot.toNat))) x.gen then{x with off:=(aP (cf m (iI c x.slot.toNat))).off,done:=true}else{x with code:=3,done:=true}
structure EdV where
 slot:Int
 gen:Int
 at':Nat
 steps:Int
 point:Int
 chunk:Int
 old:Int
 code:Int
 done:Bool
def edNew(slot gen:Int):EdV:=⟨slot,gen,0,0,0,-1,0,0,false⟩
def fu(c:cx)(m:bd)(x:EdV):bd×EdV:=
 if x.done then(m,x)
 else if x.at'=0 then
  if ma (aP (cf m (iI c x.slot.toNat))) x.gen then(m,{x with steps:=x.steps+1,old:=cf m (iI c x.slot.toNat),at':=1})
  else(m,{x with steps:=x.steps+1,old:=cf m (iI c x.slot.toNat),code:=3,point:=x.steps+1,done:=true,at':=1})
 else if cf m (iI c x.slot.toNat)=x.old then
  (m.set (iI c x.slot.toNat) (lB ⟨(aP x.old).gen,0,0,0⟩),{x with steps:=x.steps+1,chunk:=ed (aP x.old),point:=x.steps+1,done:=true,at':=0})
 else(m,{x with steps:=x.steps+1,at':=0})
structure WaV where
 l:List Int
 done:Bool
def ic(c:cx)(m:bd)(x:WaV):WaV:=
 if x.done then x
 else if gC (bB c) (cf m (aLk c (x.l.getD (x.l.length-1) 0).toNat))<0\/x.l.length=cC c then{x with done:=true}
 else{x with l:=x.l++ [gC (bB c) (cf m (aLk c (x.l.getD (x.l.length-1) 0).toNat))]}
structure AlV where
 slot:Int
 gen:Int
 n:Int
 at':Nat
 steps:Int
 point:Int
 need:Int
 held:Int
 zero:Int
 old:Int
 t:TkV
 g:GiV
 code:Int
 h:eN
 dry:Bool
 done:Bool
def tk0:TkV:=⟨0,-1,-1,poNew 0,false⟩
def alNew(slot gen n:Int):AlV:=⟨slot,gen,n,0,0,0,0,-1,0,0,tk0,ir [],0,kJ,false,false⟩
def gQ(b:Int)(s:lC)(a:AlV):lC×AlV:=
 let c:=if 0<=a.held then qA s [a.held]else s
 ((fg b c).2,{a with held:= -1,g:=ir (fg b c).1,at':=6,done:=decide ((fg b c).1.length=0)})
def oW(b:Int)(s:lC)(a:AlV)(chunk off:Int):lC×AlV:=gQ b s {a with h:=(a.slot,a.gen,chunk,off,a.n),point:=a.steps}
def mr(a:AlV):AlV:=if a.t.chunk<0 then{a with dry:=true,at':=0}else{a with held:=a.t.chunk,zero:=0,at':=3}
def mf(c:cx)(s:lC)(a:AlV):lC×AlV:=
 if ma (aP a.old) a.gen=false then gQ c.2.2.2.2.1 s {a with code:=3,point:=a.steps}
 else
  let a1:={a with need:=bF (aP a.old).cls a.n}
  if 2<=(aP a.old).mark/\lQ c.2.2.1 (aP a.old).off a1.need then(s,{a1 with at':=1})
  else if 0<=a.held then(s,{a1 with at':=4})
  else if a.dry then gQ c.2.2.2.2.1 s {a1 with code:=6,point:=a.steps}
  else
   let r:=jU c s
   if r.2.done then(r.1,mr {a1 with t:=r.2,at':=2})else(r.1,{a1 with t:=r.2,at':=2})
def ek(c:cx)(m:bd)(s:lC)(a0:AlV):bd×lC×AlV:=
 if a0.done then(m,s,a0)
 else
 let a:={a0 with steps:=a0.steps+1}
 let b:=iI c a.slot.toNat
 let r:=aP a.old
 if a.at'=0 then(m,mf c s {a with old:=cf m b})
 else if a.at'=1 then
  if cf m b=a.old then(m.set b (lB {r with off:=r.off+a.need}),oW c.2.2.2.2.1 s {a with at':=0} (ed r) r.off)
  else(m,s,{a with at':=0})
 else if a.at'=2 then
  let q:=eV c m s a.t
  (q.1,q.2.1,if q.2.2.done then mr {a with t:=q.2.2}else{a with t:=q.2.2})
 else if a.at'=3 then
  (m.set (aWd c a.held.toNat a.zero.toNat) 0,s,if a.zero+1=c.2.2.1 then{a with zero:=a.zero+1,at':=4}else{a with zero:=a.zero+1})
 else if a.at'=4 then(m.set (aLk c a.held.toNat) (ed r+1),s,{a with at':=5})
 else if a.at'=5 then
  if cf m b=a.old then(m.set b (lB {r with mark:=a.held+2,off:=eC c.2.2.1 a.need}),oW c.2.2.2.2.1 s {a with at':=0,held:= -1} a.held 0)
  else(m,s,{a with at':=0})
 else
  ((cO c m a.g).1,s,{a with g:=(cO c m a.g).2,done:=(cO c m a.g).2.done})
structure FrV where
 at':Nat
 steps:Int
 point:Int
 back:Int
 tag:Int
 e:EdV
 k:WaV
 b:PuV
 g:GiV
 code:Int
 done:Bool
def tm(slot gen:Int):FrV:=⟨0,0,0,0,0,edNew slot gen,⟨[],false⟩,puNew [],ir [],0,false⟩
def se(f:FrV):FrV:={f with b:=puNew [f.e.slot],at':=3}
def et(c:cx)(m:bd)(s:lC)(f0:FrV):bd×lC×FrV:=
 if f0.done then(m,s,f0)
 else
 let f:={f0 with steps:=f0.steps+1}
 if f.at'=0 then
  let r:=fu c m f.e
  let f1:={f with e:=r.2}
  if r.2.done=false then(r.1,s,f1)
  else
   let a:={f1 with point:=f1.steps,code:=r.2.code}
   (r.1,s,if r.2.code≠0 then{a with done:=true}else if 0<=r.2.chunk then{a with at':=1}else se a)
 else if f.at'=1 then(m,s,{f with tag:=fE (cf m 2),k:=⟨[f.e.chunk],false⟩,at':=2})
 else if f.at'=2 then
  let w:=ic c m f.k
  if w.done then(m,nV s f.tag w.l,se {f with k:=w})else(m,s,{f with k:=w})
 else if f.at'=3 then
  let r:=eQ (dF c) m f.b
  if r.2.done then(r.1,(fg c.2.2.2.2.1 s).2,{f with b:=r.2,back:=f.steps,g:=ir (fg c.2.2.2.2.1 s).1,at':=4,done:=decide ((fg c.2.2.2.2.1 s).1.length=0)})
  else(r.1,s,{f with b:=r.2})
 else((cO c m f.g).1,s,{f with g:=(cO c m f.g).2,done:=(cO c m f.g).2.done})
structure AdV where
 at':Nat
 old:Int
 won:Bool
 done:Bool
def fy(c:cx)(m:bd)(a:AdV):bd×AdV:=
 if a.done then(m,a)
 else if a.at'=0 then(m,{a with old:=cf m 2,at':=a.at'+1})
 else if a.at'<=cW c then(m,{a with done:=decide (cf m (fH c (a.at'-1))%2≠0/\cf m (fH c (a.at'-1))/2≠fE a.old),at':=a.at'+1})
 else if cf m 2=a.old then(m.set 2 (IntKind.u64.wrap (a.old+1)),{a with won:=true,done:=true,at':=a.at'+1})
 else(m,{a with won:=false,done:=true,at':=a.at'+1})
structure CoV where
 at':Nat
 a:AdV
 g:GiV
 won:Bool
 done:Bool
def coNew:CoV:=⟨0,⟨0,0,false,false⟩,ir [],false,false⟩
def fj(c:cx)(m:bd)(s:lC)(x:CoV):bd×lC×CoV:=
 if x.done then(m,s,x)
 else if x.at'=0 then
  let r:=fy c m x.a
  (r.1,s,if r.2.done then{x with a:=r.2,won:=r.2.won,at':=1}else{x with a:=r.2})
 else if x.at'=1 then
  let b:=fI s (fE (cf m 2))
  (m,(m0 b).2,{x with g:=ir (m0 b).1,at':=2,done:=decide ((m0 b).1.length=0)})
 else((cO c m x.g).1,s,{x with g:=(cO c m x.g).2,done:=(cO c m x.g).2.done})
structure EnV where
 at':Nat
 epoch:Int
 done:Bool
inductive McV where
 |none
 |create (x:CrV)
 |alloc (x:AlV)
 |enter (x:EnV)
 |leave (done:Bool)
 |look (x:LkV)
 |free (x:FrV)
 |collect (x:CoV)
structure jE where
 su:lC
 depth:Int
 holds:List iH
 busy:Bool
 o:eu
 h:eN
 steps:Int
 point:Int
 back:Int
 last:jI
 mc:McV
def aI:jE:=⟨suNew,0, [],false,(0,0,0,0,0,0),kJ,0,0,0,lR,.none⟩
def iG(c:cx)(h:eN):Bool:=decide (0<=h.1/\h.1<=c.2.2.2.1-1)&&(decide (1<=h.2.1/\h.2.1<=4294967295)&&decide (h.2.2.1=0/\h.2.2.2.1=0/\h.2.2.2.2=0))
def kf(c:cx)(h:eN):Bool:=decide (0<=h.1/\h.1<=c.2.2.2.1-1)&&(decide (1<=h.2.1/\h.2.1<=4294967295)&&(decide (0<=h.2.2.1/\h.2.2.1<=c.2.1-1)&&(decide (1<=h.2.2.2.2/\h.2.2.2.2<=c.2.2.1)&&decide (0<=h.2.2.2.1/\h.2.2.2.1<=c.2.2.1-h.2.2.2.2))))
def jF(c:cx)(o:eu)(h:eN):Bool:=
 if gu o.1=1 then iG c h else if gu o.1=2 then kf c h else if gu o.1=3 then iG c h||kf c h else true
def bO(k:jE)(r:jI):jE:={k with busy:=false,last:=r,mc:= .none}
def jV(k:jE):Int×jE:=if k.depth=15 then(8,k)else(0,{k with depth:=k.depth+1})
def dJ(k:jE):Int×jE:=if k.depth=0 then(4,k)else(0,if k.depth-1=0 then{k with depth:=k.depth-1,holds:= []}else{k with depth:=k.depth-1})
def oX(k:jE)(slot gen:Int):Bool:=decide ((slot,gen)∈k.holds)
def kF(k:jE)(slot gen:Int):jE:=if k.depth=0\/oX k slot gen=true\/k.holds.length=8 then k else{k with holds:=k.holds++ [(slot,gen)]}
def jG(c:cx)(k:jE)(o:eu)(h:eN):jE:=
 if o.1=1 then{k with mc:= .create (crNew o.2.2.2.1)}
 else if o.1=2 then(if o.2.2.2.1<1\/c.2.2.1<o.2.2.2.1 then bO k (bn 5)else{k with mc:= .alloc (alNew h.1 h.2.1 o.2.2.2.1)})
 else if o.1=3 then(if k.depth=0 then{k with mc:= .enter ⟨0,0,false⟩}else bO (jV k).2 (bn (jV k).1))
 else if o.1=4 then(if k.depth=1 then{k with mc:= .leave false}else bO (dJ k).2 (bn (dJ k).1))
 else if o.1=5 then
  (if k.depth=0 then bO k (bn 4)else if oX k h.1 h.2.1 then bO k lR else if k.holds.length=8 then bO k (bn 8)else{k with mc:= .look (qO h.1 h.2.1)})
 else if o.1=10 then{k with mc:= .free (tm h.1 h.2.1)}
 else if o.1=11 then{k with mc:= .collect coNew}
 else if o.1=12 then{k with mc:= .look (qO h.1 h.2.1)}
 else if oX k h.1 h.2.1=false then bO k (bn 4)
 else if h.2.2.2.2<=o.2.2.2.1 then bO k (bn 5)
 else{k with mc:= .none}
def iV(c:cx)(k:jE)(o:eu)(h:eN):jE:=
 if k.busy=true\/jR o=false then k
 else if jF c o h=false then bO {k with busy:=true,o:=o,h:=h,steps:=0,point:=0,back:=0} (bn 2)
 else jG c {k with busy:=true,o:=o,h:=h,steps:=0,point:=0,back:=0} o h
def ie(m:bd)(cell:Nat)(kind v a:Int):bd×jI:=
 if kind=6 then(m,(0,kJ,0,cf m cell))
 else if kind=7 then(m.set cell v,lR)
 else if kind=8 then(m.set cell (IntKind.u64.wrap (cf m cell+v)),(0,kJ,0,cf m cell))
 else if cf m cell=v then(m.set cell a,(0,kJ,1,0))else(m,lR)
def aw(c:cx)(id:Nat)(m:bd)(a:jE):bd×jE:=
 if a.busy=false then(m,a)
 else
 let k:={a with steps:=a.steps+1}
 match k.mc with
 | .create x=>
  let r:=eF c m x
  let k1:={k with mc:= .create r.2,point:=r.2.point}
  (r.1,if r.2.done=true/\r.2.code≠0 then bO k1 (bn r.2.code)else if r.2.done then bO k1 (0,(r.2.slot,r.2.gen,0,0,0),0,0)else k1)
 | .alloc x=>
  let r:=ek c m k.su x
  let k1:={k with su:=r.2.1,mc:= .alloc r.2.2,point:=r.2.2.point}
  (r.1,if r.2.2.done then bO k1 (r.2.2.code,r.2.2.h,0,0)else k1)
 | .enter x=>
  if x.at'=0 then(m,{k with mc:= .enter ⟨1,fE (cf m 2),false⟩})
  else(m.set (fH c id) (pinW x.epoch),bO (jV {k with point:=2}).2 (bn (jV k).1))
 | .leave _=>(m.set (fH c id) 0,bO (dJ {k with point:=1}).2 (bn (dJ k).1))
 | .look x=>
  let r:=nW c m x
  if k.o.1=5 then(m,bO (if r.code=0 then kF {k with point:=1} k.h.1 k.h.2.1 else{k with point:=1}) (bn r.code))
  else(m,bO {k with point:=1} (r.code,kJ,r.off,0))
 | .free x=>
  let r:=et c m k.su x
  let k1:={k with su:=r.2.1,mc:= .free r.2.2,point:=r.2.2.point,back:=r.2.2.back}
  (r.1,if r.2.2.done then bO k1 (bn r.2.2.code)else k1)
 | .collect x=>
  let r:=fj c m k.su x
  let k1:={k with su:=r.2.1,mc:= .collect r.2.2,point:=1}
  (r.1,if r.2.2.done then bO k1 lR else k1)
 | .none=>
  let r:=ie m (aWd c k.h.2.2.1.toNat (k.h.2.2.2.1+k.o.2.2.2.1).toNat) k.o.1 k.o.2.2.2.2.1 k.o.2.2.2.2.2
  (r.1,bO {k with point:=1} r.2)
def jH(c:cx)(m:bd)(k:jE):jI:=
 if k.busy=false then k.last
 else if k.point=0 then lR
 else match k.mc with
 | .create x=>(0,(x.slot,aY (aP (cf m (iI c x.slot.toNat))).gen,0,0,0),0,0)
 | .alloc x=>(x.code,x.h,0,0)
 | .free x=>bn x.code
 |_=>lR
structure sQ where
 m:bd
 ks:List jE
 ops:List (List eu)
 at':List Int
 open':List Int
 l:List di
 h:List eN
 steps:Int
def fillV(s:iF)(m:bd):bd:=
 (List.range s.n).foldl (λm i=>m.set (s.dV+i) (if i+1=s.n then 0 else(((i+2)%(s.n+1):Nat):Int))) (m.set s.head 1)
def qC(c:cx):bd:=fillV (dF c) (fillV (bB c) (List.replicate (kI c) 0))
def iL(c:cx)(ops:List (List eu)):sQ:=
 ⟨qC c,List.replicate (cW c) aI,(List.range (cW c)).map λi=>ops.getD i [],List.replicate (cW c) 0,List.replicate (cW c) (-1), [], [],0⟩
def nX:List eu->Nat->Nat
 |l,i=>if h:i<l.length then(if jR l[i]then i else nX l (i+1))else i
termination_by l i=>l.length-i
def ez(a:sQ)(w:Nat):Nat:=nX (a.ops.getD w []) (a.at'.getD w 0).toNat
def gY(c:cx)(a:sQ)(w:Int):Bool:=decide (0<=w)&&(decide (w<c.1)&&((a.ks.getD w.toNat aI).busy||decide (ez a w.toNat<(a.ops.getD w.toNat []).length)))
def jz(c:cx)(a:sQ)(w:Nat):sQ:=
 let i:=ez a w
 let o:=(a.ops.getD w []).getD i (0,0,0,0,0,0)
 let l:=a.l++ [⟨w,i,o,a.steps,-1,-1,-1,lR⟩]
 let h:=fm l ⟨w,i,o,a.steps,-1,-1,-1,lR⟩
 {a with at':=a.at'.set w (i+1),open':=a.open'.set w a.l.length,l:=l,h:=a.h++ [h],ks:=a.ks.set w (iV c (a.ks.getD w aI) o h)}
def noteS(c:cx)(m:bd)(k:jE)(steps:Int)(a:di):di:=
 let b:=if a.pt<0/\(0<k.point\/k.busy=false)then{a with pt:=steps}else a
 let d:=if b.bk<0/\0<k.back then{b with bk:=steps}else b
 let e:=if 0<=d.pt then{d with re:=jH c m k}else d
 if k.busy=false then{e with rs:=steps}else e
def spZ:di:=⟨0,0,(0,0,0,0,0,0),0,0,0,0,lR⟩
def arGo(c:cx)(a:sQ)(w:Nat):sQ:=
 let r:=aw c w a.m (a.ks.getD w aI)
 let i:=(a.open'.getD w 0).toNat
 {a with m:=r.1,ks:=a.ks.set w r.2,l:=a.l.set i (noteS c r.1 r.2 a.steps (a.l.getD i spZ)),steps:=a.steps+1}
def oY(c:cx)(a:sQ)(w:Int):sQ:=
 if gY c a w=false then a
 else arGo c (if(a.ks.getD w.toNat aI).busy then a else jz c a w.toNat) w.toNat
def oL(c:cx)(a:sQ)(p:List Int):sQ:=p.foldl (oY c) a
section
variable(D:Nat->Prop)(a0 a1 a2 a3 a4 a5 a6 x0 x1 x2 x3 x4 x5 x6 x7 x8 x9 eU gq oD x13 x14 x15 x16 x17 x18 x19 x20 x21 x22 x23 x24 x25 x26 x27 x28 x29 x30 x31 x32 x33 x34 x35 x36 x37 x38 x39 x40 x41 x42 x43 x44 x45 x46 x47 x48 x49 x50 x51:Value)(w:World)(Q:QQ)
def C20:Code:=cb Tryz.f20
def T20_0:List It:= [.jn (aX [1,1,1] C20)]
def P20_0:Prop:=Part prog 20 T20_0 [2,6,8,9,10] [x2,x6,x8,x9,eU] w Q
def H20:Nm:=⟨[], [(3, [2,6,8,9,10],u5 P20_0)], [(2,(.ask 0 4 (.leaf (r0 0 11 [])) (.leaf (1::2::3::4::0::(r0 5 6 []))))),(6,(.ask 4 5 (.leaf (r0 0 7 [])) (.leaf [1,2,3,0,5,4,6])))]⟩
def H25:Nm:=⟨[], [], []⟩
def C26:Code:=cb f26
def T26_0:List It:= [.lp (aX [1,1,0,1,4,5] C26),.eK 0,.jn (aX [1,1,1] C26)]
def P26_0:Prop:=Part prog 26 T26_0 [1,2,6] [x1,x2,x6] w Q
def T26_1:List It:= [.lp (aX [1,1,1,1,0,1,4,5] C26),.eK 2,.jn (aX [1,1,1,1,1] C26)]
def P26_1:Prop:=Part prog 26 T26_1 [1,2,7,8] [x1,x2,x7,x8] w Q
def T26_2:List It:= [.jn (aX [1,1,1,1,0,1,4,5,1,0,4,1,1,1] C26),.eK 3,.jn (aX [1,1,1,1,0,1,4,5,1,1] C26),.lp (aX [1,1,1,1,0,1,4,5] C26),.eK 2,.jn (aX [1,1,1,1,1] C26)]
def P26_2:Prop:=Part prog 26 T26_2 [1,2,7,8,9] [x1,x2,x7,x8,x9] w Q
def T26_3:List It:= [.jn (aX [1,1,1,1,0,1,4,5,1,1] C26),.lp (aX [1,1,1,1,0,1,4,5] C26),.eK 2,.jn (aX [1,1,1,1,1] C26)]
def P26_3:Prop:=Part prog 26 T26_3 [1,2,7,8] [x1,x2,x7,x8] w Q
def H26:Nm:=⟨[(4, [1,2,6],u3 P26_0),(10, [1,2,7,8],u4 P26_1)], [(11, [1,2,7,8],u4 P26_3),(16, [1,2,7,8,9],u5 P26_2)], [(8,(.ext (r0 0 6 []))),(12,(.ext (0::1::2::3::5::6::7::9::4::8::(r0 10 6 [])))),(17,(.ask 11 7 (.ask 6 12 (.ask 12 7 (.leaf (r0 0 5 (8::9::10::5::11::6::12::7::(r0 13 7 [])))) (.leaf (r0 0 5 (8::9::10::5::11::6::7::(r0 12 8 []))))) (.leaf (r0 0 5 (8::9::10::5::11::12::6::7::(r0 13 7 []))))) (.ask 6 12 (.ask 12 7 (.leaf (r0 0 5 (8::9::10::5::6::12::7::11::(r0 13 7 [])))) (.leaf (r0 0 20 []))) (.leaf (r0 0 5 (8::9::10::5::12::6::7::11::(r0 13 7 [])))))))]⟩
def C27:Code:=cb Tryz.f27
def T27_0:List It:= [.lp (aX [1,1,1,0,1,4,5] C27),.eK 0,.jn (aX [1,1,1,1] C27)]
def P27_0:Prop:=Part prog 27 T27_0 [0,1,2,7,8,9] [x0,x1,x2,x7,x8,x9] w Q
def T27_1:List It:= [.jn (aX [1,1,1,0,1,4,5,1,1] C27),.lp (aX [1,1,1,0,1,4,5] C27),.eK 0,.jn (aX [1,1,1,1] C27)]
def P27_1:Prop:=Part prog 27 T27_1 [0,1,2,7,8,9] [x0,x1,x2,x7,x8,x9] w Q
def H27:Nm:=⟨[(4, [0,1,2,7,8,9],u6 P27_0)], [(5, [0,1,2,7,8,9],u6 P27_1)], [(7,(.ask 5 8 (.leaf (r0 0 13 [])) (.leaf (r0 0 5 [6,7,8,5,9,10,11,12]))))]⟩
def C28:Code:=cb Tryz.f28
def T28_0:List It:= [.lp (aX [1,1,0,1,4,5] C28),.eK 0,.jn (aX [1,1,1] C28)]
def P28_0:Prop:=Part prog 28 T28_0 [0,1,5,6] [x0,x1,x5,x6] w Q
def T28_1:List It:= [.jn (aX [1,1,0,1,4,5,1,1] C28),.lp (aX [1,1,0,1,4,5] C28),.eK 0,.jn (aX [1,1,1] C28)]
def P28_1:Prop:=Part prog 28 T28_1 [0,1,5,6] [x0,x1,x5,x6] w Q
def H28:Nm:=⟨[(3, [0,1,5,6],u4 P28_0)], [(4, [0,1,5,6],u4 P28_1)], []⟩
def C29:Code:=cb Tryz.f29
def T29_0:List It:= [.lp (aX [1,1,0,1,4,5] C29),.eK 0,.jn (aX [1,1,1] C29)]
def P29_0:Prop:=Part prog 29 T29_0 [0,1,5,6] [x0,x1,x5,x6] w Q
def T29_1:List It:= [.jn (aX [1,1,0,1,4,5,1,0,4,1,1] C29),.eK 1,.jn (aX [1,1,0,1,4,5,1,1] C29),.lp (aX [1,1,0,1,4,5] C29),.eK 0,.jn (aX [1,1,1] C29)]
def P29_1:Prop:=Part prog 29 T29_1 [0,1,5,6,7] [x0,x1,x5,x6,x7] w Q
def H29:Nm:=⟨[(3, [0,1,5,6],u4 P29_0)], [(8, [0,1,5,6,7],u5 P29_1)], []⟩
def C53:Code:=cb Tryz.f53
def T53_0:List It:= [.jn (aX [1,1,1] C53)]
def P53_0:Prop:=Part prog 53 T53_0 [0,1,5] [x0,x1,x5] w Q
def H53:Nm:=⟨[], [(4, [0,1,5],u3 P53_0)], [(2,(.leaf (r0 0 10 []))),(3,(.leaf (r0 0 11 [])))]⟩
def C55:Code:=cb f55
def T55_0:List It:= [.jn (aX [1,1,1,1] C55)]
def P55_0:Prop:=Part prog 55 T55_0 [1,3,4] [x1,x3,x4] w Q
def T55_1:List It:= [.jn (aX [1,1,1,1,1] C55)]
def P55_1:Prop:=Part prog 55 T55_1 [1,3,4] [x1,x3,x4] w Q
def T55_2:List It:= [.jn (aX [1,1,1,1,1,1] C55)]
def P55_2:Prop:=Part prog 55 T55_2 [4] [x4] w Q
def H55:Nm:=⟨[], [(4, [1,3,4],u3 P55_0),(5, [1,3,4],u3 P55_1),(6, [4],u1 P55_2)], [(3,(.ask 5 3 (.leaf (0::1::4::2::5::3::(r0 6 5 []))) (.leaf (r0 0 11 [])))),(4,(.ask 5 3 (.leaf (0::1::4::2::5::3::(r0 6 5 []))) (.leaf (r0 0 11 [])))),(5,(.ask 5 3 (.leaf (0::1::4::2::5::3::(r0 6 5 []))) (.leaf (r0 0 11 []))))]⟩
def H56:Nm:=⟨[], [], []⟩
def C57:Code:=cb f57
def T57_0:List It:= [.jn (aX [1,1,1,1,0,1,4,1,3,1] C57),.eK 0,.jn (aX [1,1,1,1,1] C57)]
def P57_0:Prop:=Part prog 57 T57_0 [0,1,4,6,7,20,28] [x0,x1,x4,x6,x7,x20,x28] w Q
def T57_1:List It:= [.jn (aX [1,1,1,1,1] C57)]
def P57_1:Prop:=Part prog 57 T57_1 [0,1,4,6,7] [x0,x1,x4,x6,x7] w Q
def T57_2:List It:= [.jn (aX [1,1,1,1,0,1,4,1,3,1,3,1,3,1,3,1] C57),.eK 0,.jn (aX [1,1,1,1,1] C57)]
def P57_2:Prop:=Part prog 57 T57_2 [0,1,4,6,51] [x0,x1,x4,x6,x51] w Q
def T57_3:List It:= [.jn (aX [1,1,1,1,1,1] C57)]
def P57_3:Prop:=Part prog 57 T57_3 [0,1,4,6,7] [x0,x1,x4,x6,x7] w Q
def T57_4:List It:= [.jn (aX [1,1,1,1,1,1,1] C57)]
def P57_4:Prop:=Part prog 57 T57_4 [0,1,4,6,7] [x0,x1,x4,x6,x7] w Q
def T57_5:List It:= [.jn (aX [1,1,1,1,1,1,1,1,1,1,1] C57)]
def P57_5:Prop:=Part prog 57 T57_5 [4,6] [x4,x6] w Q
def H57:Nm:=⟨[], [(13, [0,1,4,6,7,20,28],u7 P57_0),(21, [0,1,4,6,51],u5 P57_2),(22, [0,1,4,6,7],u5 P57_1),(24, [0,1,4,6,7],u5 P57_3),(26, [0,1,4,6,7],u5 P57_4),(32, [4,6],u2 P57_5)], [(31,(.ask 3 5 (.leaf (r0 0 8 [])) (.leaf [0,2,1,4,5,3,6,7])))]⟩
def C58:Code:=cb Tryz.f58
def T58_0:List It:= [.jn (aX [1,1,1,0,1,2,1,1,1,1,1] C58),.jn (aX [1,1,1,1] C58)]
def P58_0:Prop:=Part prog 58 T58_0 [0,1,5,7,8] [x0,x1,x5,x7,x8] w Q
def T58_1:List It:= [.jn (aX [1,1,1,1] C58)]
def P58_1:Prop:=Part prog 58 T58_1 [0,1,5] [x0,x1,x5] w Q
def H58:Nm:=⟨[], [(10, [0,1,5,7,8],u5 P58_0),(12, [0,1,5],u3 P58_1)], [(7,(.leaf (r0 0 21 []))),(8,(.leaf (r0 0 18 []))),(9,(.ask 11 10 (.leaf [0,1,2,4,5,6,3,7,8,9,11,10,12]) (.leaf (r0 0 13 [])))),(10,(.leaf (r0 0 11 [])))]⟩
def H90:Nm:=⟨[], [], []⟩
def H91:Nm:=⟨[], [], []⟩
def H92:Nm:=⟨[], [], []⟩
def H93:Nm:=⟨[], [], []⟩
def H94:Nm:=⟨[], [], []⟩
def C95:Code:=cb Tryz.f95
def T95_0:List It:= [.lp (aX [1,1,1,4,5] C95),.eK 0]
def P95_0:Prop:=Part prog 95 T95_0 [0,4] [x0,x4] w Q
def T95_1:List It:= [.jn (aX [1,1,1,4,5,1,1] C95),.lp (aX [1,1,1,4,5] C95),.eK 0]
def P95_1:Prop:=Part prog 95 T95_1 [0,4] [x0,x4] w Q
def H95:Nm:=⟨[(3, [0,4],u2 P95_0)], [(4, [0,4],u2 P95_1)], [(1,(.leaf (r0 0 14 []))),(5,(.leaf (r0 0 24 []))),(7,(.leaf (r0 0 15 [])))]⟩
def H96:Nm:=⟨[], [], []⟩
def H97:Nm:=⟨[], [], []⟩
def C98:Code:=cb f98
def T98_0:List It:= [.lp (aX [1,1,0,1,4,5] C98),.eK 0,.jn (aX [1,1,1] C98)]
def P98_0:Prop:=Part prog 98 T98_0 [0,1,5,6] [x0,x1,x5,x6] w Q
def T98_1:List It:= [.lp (aX [1,1,0,1,4,5,1,0,4,1,4,5] C98),.eK 2,.eK 1,.jn (aX [1,1,0,1,4,5,1,1] C98),.lp (aX [1,1,0,1,4,5] C98),.eK 0,.jn (aX [1,1,1] C98)]
def P98_1:Prop:=Part prog 98 T98_1 [0,1,5,6,7] [x0,x1,x5,x6,x7] w Q
def T98_2:List It:= [.jn (aX [1,1,0,1,4,5,1,0,4,1,4,5,1,1] C98),.lp (aX [1,1,0,1,4,5,1,0,4,1,4,5] C98),.eK 2,.eK 1,.jn (aX [1,1,0,1,4,5,1,1] C98),.lp (aX [1,1,0,1,4,5] C98),.eK 0,.jn (aX [1,1,1] C98)]
def P98_2:Prop:=Part prog 98 T98_2 [0,1,5,6,7] [x0,x1,x5,x6,x7] w Q
def H98:Nm:=⟨[(3, [0,1,5,6],u4 P98_0),(6, [0,1,5,6,7],u5 P98_1)], [(7, [0,1,5,6,7],u5 P98_2)], []⟩
def H99:Nm:=⟨[], [], [(1,(.ask 29 25 (.ask 32 25 (.leaf (r0 0 15 (16::15::(r0 17 8 [26,27,28,30,29,31,32,33,25,34,35,36,37])))) (.leaf (r0 0 15 (16::15::(r0 17 8 (26::27::28::30::29::31::25::(r0 32 6 []))))))) (.leaf (r0 0 38 []))))]⟩
def C100:Code:=cb Tryz.f100
def T100_0:List It:= [.lp (aX [1,1,0,4,5] C100),.eK 0,.jn (aX [1,1,1] C100)]
def P100_0:Prop:=Part prog 100 T100_0 [0,1,5] [x0,x1,x5] w Q
def H100:Nm:=⟨[(2, [0,1,5],u3 P100_0)], [], []⟩
def C101:Code:=cb Tryz.f101
def T101_0:List It:= [.jn (aX [1,1,1] C101)]
def P101_0:Prop:=Part prog 101 T101_0 [0,4,5] [x0,x4,x5] w Q
def T101_1:List It:= [.jn (aX [1,1,1,1,1] C101)]
def P101_1:Prop:=Part prog 101 T101_1 [] [] w Q
def H101:Nm:=⟨[], [(4, [0,4,5],u3 P101_0),(42, [],u0 P101_1)], [(3,(.ask 6 10 (.ask 7 10 (.leaf (r0 0 26 [])) (.ask 7 13 (.leaf (r0 0 6 (8::9::6::10::11::12::7::(r0 13 13 [])))) (.leaf (r0 0 6 (8::9::6::10::11::12::13::7::(r0 14 12 [])))))) (.ask 7 10 (.leaf (r0 0 6 (8::9::7::10::6::(r0 11 15 [])))) (.ask 7 13 (.leaf (r0 0 6 (8::9::10::6::11::12::7::(r0 13 13 [])))) (.leaf (r0 0 6 (8::9::10::6::11::12::13::7::(r0 14 12 [])))))))),(8,(.leaf (r0 0 10 []))),(13,(.leaf (r0 0 11 []))),(15,(.leaf (r0 0 16 []))),(17,(.leaf (r0 0 15 []))),(20,(.leaf (r0 0 17 []))),(25,(.leaf (r0 0 17 []))),(29,(.leaf (r0 0 14 []))),(32,(.leaf (r0 0 9 []))),(37,(.leaf (r0 0 13 []))),(41,(.leaf (r0 0 14 [])))]⟩
def C102:Code:=cb Tryz.f102
def T102_0:List It:= [.jn (aX [1,1,1,1] C102)]
def P102_0:Prop:=Part prog 102 T102_0 [] [] w Q
def T102_1:List It:= [.jn (aX [1,1,1,0,1,4,1,3,1,3,1,3,1,3,1,2,1,1,1] C102),.eK 0,.jn (aX [1,1,1,1] C102)]
def P102_1:Prop:=Part prog 102 T102_1 [0] [x0] w Q
def T102_2:List It:= [.jn (aX [1,1,1,0,1,4,1,3,1,3,1,3,1,3,1,3,1,3,1,3,1,3,1] C102),.eK 0,.jn (aX [1,1,1,1] C102)]
def P102_2:Prop:=Part prog 102 T102_2 [0,7] [x0,x7] w Q
def H102:Nm:=⟨[], [(6, [0,7],u2 P102_2),(36, [0],u1 P102_1),(51, [],u0 P102_0)], [(5,(.ask 36 35 (.leaf [0,1,2,4,5,6,7,9,10,11,12,14,15,16,17,19,20,21,22,25,26,27,28,30,31,32,33,3,8,13,18,23,24,29,34,36,35,37]) (.leaf (r0 0 38 [])))),(14,(.leaf (r0 0 18 []))),(19,(.leaf (r0 0 17 []))),(35,(.leaf (r0 0 14 []))),(39,(.leaf (r0 0 22 []))),(50,(.leaf (r0 0 17 [])))]⟩
def C103:Code:=cb Tryz.f103
def T103_0:List It:= [.jn (aX [1,1] C103)]
def P103_0:Prop:=Part prog 103 T103_0 [0,4,5] [x0,x4,x5] w Q
def T103_1:List It:= [.jn (aX [1,1,1] C103)]
def P103_1:Prop:=Part prog 103 T103_1 [0,4,5] [x0,x4,x5] w Q
def T103_2:List It:= [.jn (aX [1,1,1,1] C103)]
def P103_2:Prop:=Part prog 103 T103_2 [0,4,5] [x0,x4,x5] w Q
def H103(D:Nat->Prop):Nm:=⟨[], [(3, [0,4,5],u3 P103_0),(5, [0,4,5],u3 P103_1),(7, [0,4,5],u3 P103_2)], [(0,(.leaf (r0 0 16 []))),(2,(.leaf (r0 0 12 []))),(4,(.leaf (r0 0 12 []))),(6,(.exd D (0::1::2::4::5::3::(r0 6 7 [])))),(8,(.leaf (r0 0 12 [])))]⟩
def H132:Nm:=⟨[], [], []⟩
def H133:Nm:=⟨[], [], []⟩
def H134:Nm:=⟨[], [], []⟩
def H135:Nm:=⟨[], [], []⟩
def H136:Nm:=⟨[], [], [(3,(.leaf (r0 0 10 []))),(5,(.leaf (r0 0 10 []))),(7,(.leaf (r0 0 21 [])))]⟩
def H137:Nm:=⟨[], [], [(1,(.ask 2 5 (.leaf (r0 0 9 [])) (.leaf [0,1,3,4,5,2,6,7,8])))]⟩
def H138:Nm:=⟨[], [], []⟩
def H139:Nm:=⟨[], [], []⟩
def H140:Nm:=⟨[], [], []⟩
def C141:Code:=cb Tryz.f141
def T141_0:List It:= [.jn (aX [1,1,1,1] C141)]
def P141_0:Prop:=Part prog 141 T141_0 [0] [x0] w Q
def H141:Nm:=⟨[], [(6, [0],u1 P141_0)], []⟩
def C142:Code:=cb Tryz.f142
def T142_0:List It:= [.lp (aX [1,0,1,4,5] C142),.eK 0,.jn (aX [1,1] C142)]
def P142_0:Prop:=Part prog 142 T142_0 [0,1,2,7] [x0,x1,x2,x7] w Q
def H142:Nm:=⟨[(2, [0,1,2,7],u4 P142_0)], [], []⟩
def H143:Nm:=⟨[], [], []⟩
def H144:Nm:=⟨[], [], []⟩
def C145:Code:=cb Tryz.f145
def T145_0:List It:= [.jn (aX [1,1,1,1,1] C145)]
def P145_0:Prop:=Part prog 145 T145_0 [] [] w Q
def H145:Nm:=⟨[], [(23, [],u0 P145_0)], [(7,(.leaf (r0 0 15 []))),(8,(.leaf (r0 0 15 []))),(21,(.leaf (r0 0 19 [])))]⟩
def C146:Code:=cb Tryz.f146
def T146_0:List It:= [.jn (aX [1,1,1,1,1,1,1] C146)]
def P146_0:Prop:=Part prog 146 T146_0 [] [] w Q
def H146(D:Nat->Prop):Nm:=⟨[], [(41, [],u0 P146_0)], [(5,(.leaf (r0 0 10 []))),(15,(.leaf (r0 0 9 []))),(18,(.leaf (r0 0 11 []))),(19,(.exd D [0,3,1,4,2,5])),(25,(.exd D [0,1,2,4,5,6,8,9,10,12,13,14,3,7,11,15,16,17])),(27,(.leaf (r0 0 10 []))),(30,(.exd D [0,1,2,4,5,6,8,9,10,3,7,11,13,12,14,15,16,17])),(34,(.exd D [0,1,2,5,6,7,8,10,11,12,3,4,15,9,13,14,16,17,18])),(37,(.leaf (r0 0 11 [])))]⟩
def H147:Nm:=⟨[], [], [(4,(.leaf (r0 0 20 []))),(8,(.leaf (r0 0 21 [])))]⟩
def H148:Nm:=⟨[], [], [(3,(.leaf (r0 0 20 [])))]⟩
def C149:Code:=cb Tryz.f149
def T149_0:List It:= [.jn (aX [1,1,1] C149)]
def P149_0:Prop:=Part prog 149 T149_0 [0,3] [x0,x3] w Q
def T149_1:List It:= [.jn (aX [1,1,1,1,1] C149)]
def P149_1:Prop:=Part prog 149 T149_1 [] [] w Q
def H149(D:Nat->Prop):Nm:=⟨[], [(4, [0,3],u2 P149_0),(8, [],u0 P149_1)], [(3,(.ask 21 18 (.exd D [0,1,2,7,8,9,14,15,16,3,4,5,6,10,11,12,13,17,21,18,19,20,22]) (.ask 21 19 (.exd D [0,1,2,7,8,9,14,15,16,3,4,5,6,10,11,12,13,17,18,21,19,20,22]) (.ask 21 20 (.exd D [0,1,2,7,8,9,14,15,16,3,4,5,6,10,11,12,13,17,18,19,21,20,22]) (.exd D (0::1::2::7::8::9::14::15::16::3::4::5::6::10::11::12::13::(r0 17 6 []))))))),(5,(.leaf (r0 0 6 [])))]⟩
def H150:Nm:=⟨[], [], []⟩
def C151:Code:=cb Tryz.f151
def T151_0:List It:= [.jn (aX [1,1,1,1,1] C151)]
def P151_0:Prop:=Part prog 151 T151_0 [] [] w Q
def H151:Nm:=⟨[], [(32, [],u0 P151_0)], [(12,(.leaf (r0 0 19 []))),(24,(.leaf (r0 0 16 [])))]⟩
def C152:Code:=cb Tryz.f152
def T152_0:List It:= [.jn (aX [1,1,1] C152)]
def P152_0:Prop:=Part prog 152 T152_0 [] [] w Q
def H152(D:Nat->Prop):Nm:=⟨[], [(14, [],u0 P152_0)], [(11,(.exd D (0::1::2::4::5::6::3::(r0 7 10 []))))]⟩
def H153:Nm:=⟨[], [], []⟩
def H154:Nm:=⟨[], [], [(2,(.ask 8 10 (.leaf (r0 0 12 [])) (.leaf [0,1,2,4,5,6,7,3,10,8,9,11]))),(7,(.ask 3 18 (.ask 6 18 (.leaf (r0 0 25 [])) (.ask 6 20 (.leaf (0::1::2::7::8::9::11::12::13::3::4::5::10::(r0 14 6 (6::(r0 20 5 []))))) (.leaf (0::1::2::7::8::9::11::12::13::3::4::5::10::(r0 14 7 [6,21,22,23,24]))))) (.ask 3 20 (.ask 6 20 (.leaf (0::1::2::7::8::9::11::12::13::10::(r0 14 6 (3::4::5::6::(r0 20 5 []))))) (.leaf (0::1::2::7::8::9::11::12::13::10::(r0 14 6 [3,4,5,20,6,21,22,23,24])))) (.leaf (0::1::2::7::8::9::11::12::13::10::(r0 14 7 [3,4,5,6,21,22,23,24])))))),(9,(.leaf (r0 0 17 [])))]⟩
def H172:Nm:=⟨[], [], []⟩
def H173:Nm:=⟨[], [], []⟩
def H174:Nm:=⟨[], [], []⟩
def H175:Nm:=⟨[], [], []⟩
def C176:Code:=cb Tryz.f176
def T176_0:List It:= [.jn (aX [1,1,1,1] C176)]
def P176_0:Prop:=Part prog 176 T176_0 [] [] w Q
def H176(D:Nat->Prop):Nm:=⟨[], [(19, [],u0 P176_0)], [(5,(.exd D (0::1::2::3::5::6::7::9::10::11::13::14::15::17::18::19::4::8::12::16::(r0 20 6 [])))),(8,(.leaf (r0 0 13 []))),(15,(.leaf (r0 0 28 []))),(16,(.leaf (r0 0 17 []))),(17,(.leaf (r0 0 14 [])))]⟩
def H177:Nm:=⟨[], [], []⟩
def H178:Nm:=⟨[], [], []⟩
def H179:Nm:=⟨[], [], []⟩
def H180:Nm:=⟨[], [], []⟩
def H181:Nm:=⟨[], [], []⟩
def H182:Nm:=⟨[], [], []⟩
def H183:Nm:=⟨[], [], [(1,(.leaf (r0 0 7 []))),(4,(.leaf (r0 0 11 []))),(8,(.leaf (r0 0 24 [])))]⟩
def H184:Nm:=⟨[], [], []⟩
def H185:Nm:=⟨[], [], [(0,(.leaf (r0 0 27 [])))]⟩
def H186:Nm:=⟨[], [], []⟩
def C187:Code:=cb Tryz.f187
def T187_0:List It:= [.jn (aX [1,1,0,1,2,1,1,1,1] C187),.jn (aX [1,1,1] C187)]
def P187_0:Prop:=Part prog 187 T187_0 [] [] w Q
def T187_1:List It:= [.jn (aX [1,1,1,1,1,1,1] C187)]
def P187_1:Prop:=Part prog 187 T187_1 [0] [x0] w Q
def H187:Nm:=⟨[], [(9, [],u0 P187_0),(17, [0],u1 P187_1)], [(5,(.leaf (r0 0 9 []))),(16,(.leaf (r0 0 10 [])))]⟩
def H188:Nm:=⟨[], [], []⟩
def H189:Nm:=⟨[], [], []⟩
def H190:Nm:=⟨[], [], []⟩
def H191:Nm:=⟨[], [], []⟩
def H192:Nm:=⟨[], [], []⟩
def H193:Nm:=⟨[], [], []⟩
def C194:Code:=cb Tryz.f194
def T194_0:List It:= [.jn (aX [1,1,1,1,0,1,2,1,1] C194),.jn (aX [1,1,1,1,1] C194)]
def P194_0:Prop:=Part prog 194 T194_0 [0] [x0] w Q
def T194_1:List It:= [.jn (aX [1,1,1,1,1,1,1,1] C194)]
def P194_1:Prop:=Part prog 194 T194_1 [0] [x0] w Q
def H194(D:Nat->Prop):Nm:=⟨[], [(9, [0],u1 P194_0),(15, [0],u1 P194_1)], [(4,(.leaf (r0 0 13 []))),(7,(.exd D [0,1,2,5,6,7,3,8,4,9,10])),(13,(.leaf (r0 0 14 []))),(14,(.exd D (0::1::2::5::6::7::3::8::4::(r0 9 9 []))))]⟩
def H195:Nm:=⟨[], [], [(0,(.leaf (r0 0 27 [])))]⟩
def H196:Nm:=⟨[], [], []⟩
def C197:Code:=cb Tryz.f197
def T197_0:List It:= [.jn (aX [1,1,1,1] C197)]
def P197_0:Prop:=Part prog 197 T197_0 [] [] w Q
def H197(D:Nat->Prop):Nm:=⟨[], [(7, [],u0 P197_0)], [(3,(.exd D (0::1::2::7::8::9::14::15::16::21::22::23::25::26::27::3::4::5::6::10::11::12::13::17::18::19::20::24::(r0 28 9 [])))),(4,(.leaf (r0 0 18 [])))]⟩
def H198:Nm:=⟨[], [], []⟩
def C199:Code:=cb Tryz.f199
def T199_0:List It:= [.jn (aX [1,1,1,1] C199)]
def P199_0:Prop:=Part prog 199 T199_0 [] [] w Q
def H199(D:Nat->Prop):Nm:=⟨[], [(15, [],u0 P199_0)], [(3,(.leaf (r0 0 11 []))),(4,(.exd D (0::1::2::3::5::6::7::9::10::11::13::14::15::17::18::19::4::8::12::16::(r0 20 8 [])))),(7,(.leaf (r0 0 33 []))),(10,(.leaf (r0 0 13 []))),(13,(.exd D (0::1::2::4::5::6::8::9::10::12::13::17::18::19::20::3::7::11::14::15::16::(r0 21 5 []))))]⟩
def H200:Nm:=⟨[], [], []⟩
def C201:Code:=cb Tryz.f201
def T201_0:List It:= [.jn (aX [1,1,1,1] C201)]
def P201_0:Prop:=Part prog 201 T201_0 [0] [x0] w Q
def H201:Nm:=⟨[], [(11, [0],u1 P201_0)], [(4,(.leaf (r0 0 22 []))),(8,(.leaf (r0 0 13 []))),(9,(.leaf (r0 0 21 [])))]⟩
def H202:Nm:=⟨[], [], []⟩
def H203:Nm:=⟨[], [], []⟩
def H204:Nm:=⟨[], [], []⟩
def H205:Nm:=⟨[], [], [(1,(.ask 3 12 (.ask 6 12 (.leaf (r0 0 17 [])) (.leaf [0,1,2,7,8,9,11,3,4,5,10,12,6,13,14,15,16])) (.leaf [0,1,2,7,8,9,11,10,12,3,4,5,6,13,14,15,16])))]⟩
def H211:Nm:=⟨[], [], []⟩
def H212:Nm:=⟨[], [], []⟩
def H213:Nm:=⟨[], [], []⟩
def H214:Nm:=⟨[], [], []⟩
def C215:Code:=cb Tryz.f215
def T215_0:List It:= [.jn (aX [1] C215)]
def P215_0:Prop:=Part prog 215 T215_0 [0] [x0] w Q
def H215:Nm:=⟨[], [(3, [0],u1 P215_0)], [(1,(.leaf (r0 0 13 [])))]⟩
def C216:Code:=cb Tryz.f216
def T216_0:List It:= [.jn (aX [1,1,1,1] C216)]
def P216_0:Prop:=Part prog 216 T216_0 [3] [x3] w Q
def H216:Nm:=⟨[], [(5, [3],u1 P216_0)], []⟩
def H217:Nm:=⟨[], [], []⟩
def H218:Nm:=⟨[], [], [(0,(.leaf (r0 0 30 [])))]⟩
def H219:Nm:=⟨[], [], []⟩
def H220:Nm:=⟨[], [], []⟩
def C221:Code:=cb Tryz.f221
def T221_0:List It:= [.jn (aX [1,1,1,1,1,1] C221)]
def P221_0:Prop:=Part prog 221 T221_0 [0,1,2,8,9] [x0,x1,x2,x8,x9] w Q
def H221:Nm:=⟨[], [(9, [0,1,2,8,9],u5 P221_0)], [(10,(.leaf (r0 0 15 [])))]⟩
def H222:Nm:=⟨[], [], []⟩
def H223:Nm:=⟨[], [], [(1,(.leaf (r0 0 12 [])))]⟩
def H224:Nm:=⟨[], [], []⟩
def C225:Code:=cb Tryz.f225
def T225_0:List It:= [.lp (aX [1,1,0,4,5] C225),.eK 0,.jn (aX [1,1,1] C225)]
def P225_0:Prop:=Part prog 225 T225_0 [0,1,5] [x0,x1,x5] w Q
def H225:Nm:=⟨[(2, [0,1,5],u3 P225_0)], [], []⟩
def H226:Nm:=⟨[], [], []⟩
def H227:Nm:=⟨[], [], []⟩
def H228:Nm:=⟨[], [], []⟩
def H229:Nm:=⟨[], [], [(1,(.leaf (r0 0 21 [])))]⟩
def H230:Nm:=⟨[], [], []⟩
def H231:Nm:=⟨[], [], []⟩
def C232:Code:=cb Tryz.f232
def T232_0:List It:= [.lp (aX [1,1,0,1,4,5] C232),.eK 0,.jn (aX [1,1,1] C232)]
def P232_0:Prop:=Part prog 232 T232_0 [0,1,5,6] [x0,x1,x5,x6] w Q
def T232_1:List It:= [.jn (aX [1,1,0,1,4,5,1,1] C232),.lp (aX [1,1,0,1,4,5] C232),.eK 0,.jn (aX [1,1,1] C232)]
def P232_1:Prop:=Part prog 232 T232_1 [0,1,5,6] [x0,x1,x5,x6] w Q
def H232:Nm:=⟨[(3, [0,1,5,6],u4 P232_0)], [(4, [0,1,5,6],u4 P232_1)], [(5,(.leaf (r0 0 38 [])))]⟩
end
section
attribute [local irreducible] prog qh Part P20_0 P26_0 P26_1 P26_2 P26_3 P27_0 P27_1 P28_0 P28_1 P29_0 P29_1 P53_0 P55_0 P55_1 P55_2 P57_0 P57_1 P57_2 P57_3 P57_4 P57_5 P58_0 P58_1 P95_0 P95_1 P98_0 P98_1 P98_2 P100_0 P101_0 P101_1 P102_0 P102_1 P102_2 P103_0 P103_1 P103_2 P141_0 P142_0 P145_0 P146_0 P149_0 P149_1 P151_0 P152_0 P176_0 P187_0 P187_1 P194_0 P194_1 P197_0 P199_0 P201_0 P215_0 P216_0 P221_0 P225_0 P232_0 P232_1
attribute [local irreducible] mV ai bp be gi cP ck aa CallX CallD rdD rdG gv gd gE gU qV nilv cnd World.drew undef nl
attribute [local irreducible] Instr.box Instr.alloc Instr.build Instr.buildSlice Instr.storeAt convert Op.unary Instr.makeInterface Instr.makeSlice Instr.sliceAt Instr.fieldAt Instr.field Instr.indexAt Instr.index Instr.typeAssert Instr.extract
attribute [local irreducible] Builtin.len_ Builtin.cap_ Builtin.min_ Builtin.max_ Builtin.append_ Builtin.copy_
variable(D:Nat->Prop)(a0 a1 a2 a3 a4 a5 a6 x0 x1 x2 x3 x4 x5 x6 x7 x8 x9 eU gq oD x13 x14 x15 x16 x17 x18 x19 x20 x21 x22 x23 x24 x25 x26 x27 x28 x29 x30 x31 x32 x33 x34 x35 x36 x37 x38 x39 x40 x41 x42 x43 x44 x45 x46 x47 x48 x49 x50 x51:Value)(w:World)(Q:QQ)
def F20:Prop:=(λp (_:(fx H20 Tryz.f20 [a0,a1,a2] w Q).p=p)=>p) _ rz
def L20_0:Prop:=(λp (_:(fQ H20 Tryz.f20 T20_0 [2,6,8,9,10] [x2,x6,x8,x9,eU] w Q).p=p)=>p) _ rz
def F25:Prop:=(λp (_:(fx H25 Tryz.f25 [a0] w Q).p=p)=>p) _ rz
def F26:Prop:=(λp (_:(fx H26 f26 [a0,a1] w Q).p=p)=>p) _ rz
def L26_0:Prop:=(λp (_:(mq H26 f26 T26_0 [1,2,6] [x1,x2,x6] w Q).p=p)=>p) _ rz
def L26_1:Prop:=(λp (_:(mq H26 f26 T26_1 [1,2,7,8] [x1,x2,x7,x8] w Q).p=p)=>p) _ rz
def L26_2:Prop:=(λp (_:(fQ H26 f26 T26_2 [1,2,7,8,9] [x1,x2,x7,x8,x9] w Q).p=p)=>p) _ rz
def L26_3:Prop:=(λp (_:(fQ H26 f26 T26_3 [1,2,7,8] [x1,x2,x7,x8] w Q).p=p)=>p) _ rz
def F27:Prop:=(λp (_:(fx H27 Tryz.f27 [a0,a1,a2] w Q).p=p)=>p) _ rz
def L27_0:Prop:=(λp (_:(mq H27 Tryz.f27 T27_0 [0,1,2,7,8,9] [x0,x1,x2,x7,x8,x9] w Q).p=p)=>p) _ rz
def L27_1:Prop:=(λp (_:(fQ H27 Tryz.f27 T27_1 [0,1,2,7,8,9] [x0,x1,x2,x7,x8,x9] w Q).p=p)=>p) _ rz
def F28:Prop:=(λp (_:(fx H28 Tryz.f28 [a0,a1] w Q).p=p)=>p) _ rz
def L28_0:Prop:=(λp (_:(mq H28 Tryz.f28 T28_0 [0,1,5,6] [x0,x1,x5,x6] w Q).p=p)=>p) _ rz
def L28_1:Prop:=(λp (_:(fQ H28 Tryz.f28 T28_1 [0,1,5,6] [x0,x1,x5,x6] w Q).p=p)=>p) _ rz
def F29:Prop:=(λp (_:(fx H29 Tryz.f29 [a0,a1] w Q).p=p)=>p) _ rz
def L29_0:Prop:=(λp (_:(mq H29 Tryz.f29 T29_0 [0,1,5,6] [x0,x1,x5,x6] w Q).p=p)=>p) _ rz
def L29_1:Prop:=(λp (_:(fQ H29 Tryz.f29 T29_1 [0,1,5,6,7] [x0,x1,x5,x6,x7] w Q).p=p)=>p) _ rz
def F53:Prop:=(λp (_:(fx H53 Tryz.f53 [a0,a1] w Q).p=p)=>p) _ rz
def L53_0:Prop:=(λp (_:(fQ H53 Tryz.f53 T53_0 [0,1,5] [x0,x1,x5] w Q).p=p)=>p) _ rz
def F55:Prop:=(λp (_:(fx H55 f55 [a0] w Q).p=p)=>p) _ rz
def L55_0:Prop:=(λp (_:(fQ H55 f55 T55_0 [1,3,4] [x1,x3,x4] w Q).p=p)=>p) _ rz
def L55_1:Prop:=(λp (_:(fQ H55 f55 T55_1 [1,3,4] [x1,x3,x4] w Q).p=p)=>p) _ rz
def L55_2:Prop:=(λp (_:(fQ H55 f55 T55_2 [4] [x4] w Q).p=p)=>p) _ rz
def F56:Prop:=(λp (_:(fx H56 Tryz.f56 [a0,a1] w Q).p=p)=>p) _ rz
def F57:Prop:=(λp (_:(fx H57 f57 [a0,a1] w Q).p=p)=>p) _ rz
def L57_0:Prop:=(λp (_:(fQ H57 f57 T57_0 [0,1,4,6,7,20,28] [x0,x1,x4,x6,x7,x20,x28] w Q).p=p)=>p) _ rz
def L57_1:Prop:=(λp (_:(fQ H57 f57 T57_1 [0,1,4,6,7] [x0,x1,x4,x6,x7] w Q).p=p)=>p) _ rz
def L57_2:Prop:=(λp (_:(fQ H57 f57 T57_2 [0,1,4,6,51] [x0,x1,x4,x6,x51] w Q).p=p)=>p) _ rz
def L57_3:Prop:=(λp (_:(fQ H57 f57 T57_3 [0,1,4,6,7] [x0,x1,x4,x6,x7] w Q).p=p)=>p) _ rz
def L57_4:Prop:=(λp (_:(fQ H57 f57 T57_4 [0,1,4,6,7] [x0,x1,x4,x6,x7] w Q).p=p)=>p) _ rz
def L57_5:Prop:=(λp (_:(fQ H57 f57 T57_5 [4,6] [x4,x6] w Q).p=p)=>p) _ rz
def F58:Prop:=(λp (_:(fx H58 Tryz.f58 [a0,a1] w Q).p=p)=>p) _ rz
def L58_0:Prop:=(λp (_:(fQ H58 Tryz.f58 T58_0 [0,1,5,7,8] [x0,x1,x5,x7,x8] w Q).p=p)=>p) _ rz
def L58_1:Prop:=(λp (_:(fQ H58 Tryz.f58 T58_1 [0,1,5] [x0,x1,x5] w Q).p=p)=>p) _ rz
def F90:Prop:=(λp (_:(fx H90 Tryz.f90 [a0] w Q).p=p)=>p) _ rz
def F91:Prop:=(λp (_:(fx H91 Tryz.f91 [a0] w Q).p=p)=>p) _ rz
def F92:Prop:=(λp (_:(fx H92 Tryz.f92 [a0,a1] w Q).p=p)=>p) _ rz
def F93:Prop:=(λp (_:(fx H93 Tryz.f93 [a0,a1] w Q).p=p)=>p) _ rz
def F94:Prop:=(λp (_:(fx H94 Tryz.f94 [a0,a1] w Q).p=p)=>p) _ rz
def F95:Prop:=(λp (_:(fx H95 Tryz.f95 [a0] w Q).p=p)=>p) _ rz
def L95_0:Prop:=(λp (_:(mq H95 Tryz.f95 T95_0 [0,4] [x0,x4] w Q).p=p)=>p) _ rz
def L95_1:Prop:=(λp (_:(fQ H95 Tryz.f95 T95_1 [0,4] [x0,x4] w Q).p=p)=>p) _ rz
def F96:Prop:=(λp (_:(fx H96 Tryz.f96 [a0] w Q).p=p)=>p) _ rz
def F97:Prop:=(λp (_:(fx H97 Tryz.f97 [] w Q).p=p)=>p) _ rz
def F98:Prop:=(λp (_:(fx H98 f98 [a0,a1] w Q).p=p)=>p) _ rz
def L98_0:Prop:=(λp (_:(mq H98 f98 T98_0 [0,1,5,6] [x0,x1,x5,x6] w Q).p=p)=>p) _ rz
def L98_1:Prop:=(λp (_:(mq H98 f98 T98_1 [0,1,5,6,7] [x0,x1,x5,x6,x7] w Q).p=p)=>p) _ rz
def L98_2:Prop:=(λp (_:(fQ H98 f98 T98_2 [0,1,5,6,7] [x0,x1,x5,x6,x7] w Q).p=p)=>p) _ rz
def F99:Prop:=(λp (_:(fx H99 Tryz.f99 [a0,a1] w Q).p=p)=>p) _ rz
def F100:Prop:=(λp (_:(fx H100 Tryz.f100 [a0,a1] w Q).p=p)=>p) _ rz
def L100_0:Prop:=(λp (_:(mq H100 Tryz.f100 T100_0 [0,1,5] [x0,x1,x5] w Q).p=p)=>p) _ rz
def F101:Prop:=(λp (_:(fx H101 Tryz.f101 [a0,a1,a2] w Q).p=p)=>p) _ rz
def L101_0:Prop:=(λp (_:(fQ H101 Tryz.f101 T101_0 [0,4,5] [x0,x4,x5] w Q).p=p)=>p) _ rz
def L101_1:Prop:=(λp (_:(fQ H101 Tryz.f101 T101_1 [] [] w Q).p=p)=>p) _ rz
def F102:Prop:=(λp (_:(fx H102 Tryz.f102 [a0] w Q).p=p)=>p) _ rz
def L102_0:Prop:=(λp (_:(fQ H102 Tryz.f102 T102_0 [] [] w Q).p=p)=>p) _ rz
def L102_1:Prop:=(λp (_:(fQ H102 Tryz.f102 T102_1 [0] [x0] w Q).p=p)=>p) _ rz
def L102_2:Prop:=(λp (_:(fQ H102 Tryz.f102 T102_2 [0,7] [x0,x7] w Q).p=p)=>p) _ rz
def F103:Prop:=(λp (_:(fx (H103 λ_=>False) Tryz.f103 [a0,a1] w Q).p=p)=>p) _ rz
def L103_0:Prop:=(λp (_:(fQ (H103 λ_=>False) Tryz.f103 T103_0 [0,4,5] [x0,x4,x5] w Q).p=p)=>p) _ rz
def L103_1:Prop:=(λp (_:(fQ (H103 D) Tryz.f103 T103_1 [0,4,5] [x0,x4,x5] w Q).p=p)=>p) _ rz
def L103_2:Prop:=(λp (_:(fQ (H103 λ_=>False) Tryz.f103 T103_2 [0,4,5] [x0,x4,x5] w Q).p=p)=>p) _ rz
def F132:Prop:=(λp (_:(fx H132 Tryz.f132 [a0,a1,a2,a3] w Q).p=p)=>p) _ rz
def F133:Prop:=(λp (_:(fx H133 Tryz.f133 [a0] w Q).p=p)=>p) _ rz
def F134:Prop:=(λp (_:(fx H134 Tryz.f134 [a0] w Q).p=p)=>p) _ rz
def F135:Prop:=(λp (_:(fx H135 Tryz.f135 [] w Q).p=p)=>p) _ rz
def F136:Prop:=(λp (_:(fx H136 Tryz.f136 [a0,a1,a2] w Q).p=p)=>p) _ rz
def F137:Prop:=(λp (_:(fx H137 Tryz.f137 [a0,a1] w Q).p=p)=>p) _ rz
def F138:Prop:=(λp (_:(fx H138 Tryz.f138 [a0,a1] w Q).p=p)=>p) _ rz
def F139:Prop:=(λp (_:(fx H139 Tryz.f139 [a0,a1,a2,a3] w Q).p=p)=>p) _ rz
def F140:Prop:=(λp (_:(fx H140 Tryz.f140 [a0] w Q).p=p)=>p) _ rz
def F141:Prop:=(λp (_:(fx H141 Tryz.f141 [a0] w Q).p=p)=>p) _ rz
def L141_0:Prop:=(λp (_:(fQ H141 Tryz.f141 T141_0 [0] [x0] w Q).p=p)=>p) _ rz
def F142:Prop:=(λp (_:(fx H142 Tryz.f142 [a0,a1,a2] w Q).p=p)=>p) _ rz
def L142_0:Prop:=(λp (_:(mq H142 Tryz.f142 T142_0 [0,1,2,7] [x0,x1,x2,x7] w Q).p=p)=>p) _ rz
def F143:Prop:=(λp (_:(fx H143 Tryz.f143 [a0,a1,a2] w Q).p=p)=>p) _ rz
def F144:Prop:=(λp (_:(fx H144 Tryz.f144 [a0] w Q).p=p)=>p) _ rz
def F145:Prop:=(λp (_:(fx H145 Tryz.f145 [a0] w Q).p=p)=>p) _ rz
def L145_0:Prop:=(λp (_:(fQ H145 Tryz.f145 T145_0 [] [] w Q).p=p)=>p) _ rz
def F146:Prop:=(λp (_:(fx (H146 D) Tryz.f146 [a0] w Q).p=p)=>p) _ rz
def L146_0:Prop:=(λp (_:(fQ (H146 λ_=>False) Tryz.f146 T146_0 [] [] w Q).p=p)=>p) _ rz
def F147:Prop:=(λp (_:(fx H147 Tryz.f147 [a0] w Q).p=p)=>p) _ rz
def F148:Prop:=(λp (_:(fx H148 Tryz.f148 [a0] w Q).p=p)=>p) _ rz
def F149:Prop:=(λp (_:(fx (H149 D) Tryz.f149 [a0] w Q).p=p)=>p) _ rz
def L149_0:Prop:=(λp (_:(fQ (H149 λ_=>False) Tryz.f149 T149_0 [0,3] [x0,x3] w Q).p=p)=>p) _ rz
def L149_1:Prop:=(λp (_:(fQ (H149 λ_=>False) Tryz.f149 T149_1 [] [] w Q).p=p)=>p) _ rz
def F150:Prop:=(λp (_:(fx H150 Tryz.f150 [a0,a1,a2] w Q).p=p)=>p) _ rz
def F151:Prop:=(λp (_:(fx H151 Tryz.f151 [a0] w Q).p=p)=>p) _ rz
def L151_0:Prop:=(λp (_:(fQ H151 Tryz.f151 T151_0 [] [] w Q).p=p)=>p) _ rz
def F152:Prop:=(λp (_:(fx (H152 D) Tryz.f152 [a0] w Q).p=p)=>p) _ rz
def L152_0:Prop:=(λp (_:(fQ (H152 λ_=>False) Tryz.f152 T152_0 [] [] w Q).p=p)=>p) _ rz
def F153:Prop:=(λp (_:(fx H153 Tryz.f153 [a0,a1,a2,a3,a4,a5] w Q).p=p)=>p) _ rz
def F154:Prop:=(λp (_:(fx H154 Tryz.f154 [a0] w Q).p=p)=>p) _ rz
def F172:Prop:=(λp (_:(fx H172 Tryz.f172 [a0,a1] w Q).p=p)=>p) _ rz
def F173:Prop:=(λp (_:(fx H173 Tryz.f173 [a0,a1] w Q).p=p)=>p) _ rz
def F174:Prop:=(λp (_:(fx H174 Tryz.f174 [a0,a1] w Q).p=p)=>p) _ rz
def F175:Prop:=(λp (_:(fx H175 Tryz.f175 [a0,a1,a2] w Q).p=p)=>p) _ rz
def F176:Prop:=(λp (_:(fx (H176 D) Tryz.f176 [a0] w Q).p=p)=>p) _ rz
def L176_0:Prop:=(λp (_:(fQ (H176 λ_=>False) Tryz.f176 T176_0 [] [] w Q).p=p)=>p) _ rz
def F177:Prop:=(λp (_:(fx H177 Tryz.f177 [a0] w Q).p=p)=>p) _ rz
def F178:Prop:=(λp (_:(fx H178 Tryz.f178 [a0] w Q).p=p)=>p) _ rz
def F179:Prop:=(λp (_:(fx H179 Tryz.f179 [a0,a1] w Q).p=p)=>p) _ rz
def F180:Prop:=(λp (_:(fx H180 Tryz.f180 [a0,a1] w Q).p=p)=>p) _ rz
def F181:Prop:=(λp (_:(fx H181 Tryz.f181 [a0] w Q).p=p)=>p) _ rz
def F182:Prop:=(λp (_:(fx H182 Tryz.f182 [a0,a1,a2] w Q).p=p)=>p) _ rz
def F183:Prop:=(λp (_:(fx H183 Tryz.f183 [a0] w Q).p=p)=>p) _ rz
def F184:Prop:=(λp (_:(fx H184 Tryz.f184 [a0,a1,a2,a3] w Q).p=p)=>p) _ rz
def F185:Prop:=(λp (_:(fx H185 Tryz.f185 [a0,a1,a2] w Q).p=p)=>p) _ rz
def F186:Prop:=(λp (_:(fx H186 Tryz.f186 [a0] w Q).p=p)=>p) _ rz
def F187:Prop:=(λp (_:(fx H187 Tryz.f187 [a0] w Q).p=p)=>p) _ rz
def L187_0:Prop:=(λp (_:(fQ H187 Tryz.f187 T187_0 [] [] w Q).p=p)=>p) _ rz
def L187_1:Prop:=(λp (_:(fQ H187 Tryz.f187 T187_1 [0] [x0] w Q).p=p)=>p) _ rz
def F188:Prop:=(λp (_:(fx H188 Tryz.f188 [a0] w Q).p=p)=>p) _ rz
def F189:Prop:=(λp (_:(fx H189 Tryz.f189 [a0,a1,a2] w Q).p=p)=>p) _ rz
def F190:Prop:=(λp (_:(fx H190 Tryz.f190 [a0] w Q).p=p)=>p) _ rz
def F191:Prop:=(λp (_:(fx H191 Tryz.f191 [a0] w Q).p=p)=>p) _ rz
def F192:Prop:=(λp (_:(fx H192 Tryz.f192 [a0] w Q).p=p)=>p) _ rz
def F193:Prop:=(λp (_:(fx H193 Tryz.f193 [a0,a1] w Q).p=p)=>p) _ rz
def F194:Prop:=(λp (_:(fx (H194 D) Tryz.f194 [a0] w Q).p=p)=>p) _ rz
def L194_0:Prop:=(λp (_:(fQ (H194 λ_=>False) Tryz.f194 T194_0 [0] [x0] w Q).p=p)=>p) _ rz
def L194_1:Prop:=(λp (_:(fQ (H194 λ_=>False) Tryz.f194 T194_1 [0] [x0] w Q).p=p)=>p) _ rz
def F195:Prop:=(λp (_:(fx H195 Tryz.f195 [a0] w Q).p=p)=>p) _ rz
def F196:Prop:=(λp (_:(fx H196 Tryz.f196 [a0,a1] w Q).p=p)=>p) _ rz
def F197:Prop:=(λp (_:(fx (H197 D) Tryz.f197 [a0] w Q).p=p)=>p) _ rz
def L197_0:Prop:=(λp (_:(fQ (H197 λ_=>False) Tryz.f197 T197_0 [] [] w Q).p=p)=>p) _ rz
def F198:Prop:=(λp (_:(fx H198 Tryz.f198 [a0,a1,a2] w Q).p=p)=>p) _ rz
def F199:Prop:=(λp (_:(fx (H199 D) Tryz.f199 [a0] w Q).p=p)=>p) _ rz
def L199_0:Prop:=(λp (_:(fQ (H199 λ_=>False) Tryz.f199 T199_0 [] [] w Q).p=p)=>p) _ rz
def F200:Prop:=(λp (_:(fx H200 Tryz.f200 [a0] w Q).p=p)=>p) _ rz
def F201:Prop:=(λp (_:(fx H201 Tryz.f201 [a0] w Q).p=p)=>p) _ rz
def L201_0:Prop:=(λp (_:(fQ H201 Tryz.f201 T201_0 [0] [x0] w Q).p=p)=>p) _ rz
def F202:Prop:=(λp (_:(fx H202 Tryz.f202 [a0,a1] w Q).p=p)=>p) _ rz
def F203:Prop:=(λp (_:(fx H203 Tryz.f203 [a0] w Q).p=p)=>p) _ rz
def F204:Prop:=(λp (_:(fx H204 Tryz.f204 [a0,a1,a2] w Q).p=p)=>p) _ rz
def F205:Prop:=(λp (_:(fx H205 Tryz.f205 [a0,a1] w Q).p=p)=>p) _ rz
def F211:Prop:=(λp (_:(fx H211 Tryz.f211 [a0,a1,a2] w Q).p=p)=>p) _ rz
def F212:Prop:=(λp (_:(fx H212 Tryz.f212 [a0,a1] w Q).p=p)=>p) _ rz
def F213:Prop:=(λp (_:(fx H213 Tryz.f213 [a0,a1] w Q).p=p)=>p) _ rz
def F214:Prop:=(λp (_:(fx H214 Tryz.f214 [a0,a1] w Q).p=p)=>p) _ rz
def F215:Prop:=(λp (_:(fx H215 Tryz.f215 [a0] w Q).p=p)=>p) _ rz
def L215_0:Prop:=(λp (_:(fQ H215 Tryz.f215 T215_0 [0] [x0] w Q).p=p)=>p) _ rz
def F216:Prop:=(λp (_:(fx H216 Tryz.f216 [a0] w Q).p=p)=>p) _ rz
def L216_0:Prop:=(λp (_:(fQ H216 Tryz.f216 T216_0 [3] [x3] w Q).p=p)=>p) _ rz
def F217:Prop:=(λp (_:(fx H217 Tryz.f217 [a0] w Q).p=p)=>p) _ rz
def F218:Prop:=(λp (_:(fx H218 Tryz.f218 [a0] w Q).p=p)=>p) _ rz
def F219:Prop:=(λp (_:(fx H219 Tryz.f219 [a0,a1] w Q).p=p)=>p) _ rz
def F220:Prop:=(λp (_:(fx H220 Tryz.f220 [a0,a1] w Q).p=p)=>p) _ rz
def F221:Prop:=(λp (_:(fx H221 Tryz.f221 [a0,a1,a2] w Q).p=p)=>p) _ rz
def L221_0:Prop:=(λp (_:(fQ H221 Tryz.f221 T221_0 [0,1,2,8,9] [x0,x1,x2,x8,x9] w Q).p=p)=>p) _ rz
def F222:Prop:=(λp (_:(fx H222 Tryz.f222 [a0,a1] w Q).p=p)=>p) _ rz
def F223:Prop:=(λp (_:(fx H223 Tryz.f223 [a0] w Q).p=p)=>p) _ rz
def F224:Prop:=(λp (_:(fx H224 Tryz.f224 [a0] w Q).p=p)=>p) _ rz
def F225:Prop:=(λp (_:(fx H225 Tryz.f225 [a0,a1] w Q).p=p)=>p) _ rz
def L225_0:Prop:=(λp (_:(mq H225 Tryz.f225 T225_0 [0,1,5] [x0,x1,x5] w Q).p=p)=>p) _ rz
def F226:Prop:=(λp (_:(fx H226 Tryz.f226 [a0] w Q).p=p)=>p) _ rz
def F227:Prop:=(λp (_:(fx H227 Tryz.f227 [a0] w Q).p=p)=>p) _ rz
def F228:Prop:=(λp (_:(fx H228 Tryz.f228 [a0,a1] w Q).p=p)=>p) _ rz
def F229:Prop:=(λp (_:(fx H229 Tryz.f229 [a0] w Q).p=p)=>p) _ rz
def F230:Prop:=(λp (_:(fx H230 Tryz.f230 [a0] w Q).p=p)=>p) _ rz
def F231:Prop:=(λp (_:(fx H231 Tryz.f231 [a0,a1] w Q).p=p)=>p) _ rz
def F232:Prop:=(λp (_:(fx H232 Tryz.f232 [a0,a1] w Q).p=p)=>p) _ rz
def L232_0:Prop:=(λp (_:(mq H232 Tryz.f232 T232_0 [0,1,5,6] [x0,x1,x5,x6] w Q).p=p)=>p) _ rz
def L232_1:Prop:=(λp (_:(fQ H232 Tryz.f232 T232_1 [0,1,5,6] [x0,x1,x5,x6] w Q).p=p)=>p) _ rz
end
section
variable{D:Nat->Prop}{a0 a1 a2 a3 a4 a5 a6 x0 x1 x2 x3 x4 x5 x6 x7 x8 x9 eU gq oD x13 x14 x15 x16 x17 x18 x19 x20 x21 x22 x23 x24 x25 x26 x27 x28 x29 x30 x31 x32 x33 x34 x35 x36 x37 x38 x39 x40 x41 x42 x43 x44 x45 x46 x47 x48 x49 x50 x51:Value}{w:World}{Q:QQ}
theorem F20_ok(h:F20 a0 a1 a2 w Q):aa prog 20 [a0,a1,a2] w Q:=cG H20 Tryz.func20 h
theorem L20_0_ok(h:L20_0 x2 x6 x8 x9 eU w Q):P20_0 x2 x6 x8 x9 eU w Q:=pJ H20 Tryz.func20 h
theorem F25_ok(h:F25 a0 w Q):aa prog 25 [a0] w Q:=cG H25 Tryz.func25 h
theorem F26_ok(h:F26 a0 a1 w Q):aa prog 26 [a0,a1] w Q:=cG H26 Tryz.func26 h
theorem L26_0_ok(h:L26_0 x1 x2 x6 w Q):P26_0 x1 x2 x6 w Q:=pL H26 Tryz.func26 h
theorem L26_1_ok(h:L26_1 x1 x2 x7 x8 w Q):P26_1 x1 x2 x7 x8 w Q:=pL H26 Tryz.func26 h
theorem L26_2_ok(h:L26_2 x1 x2 x7 x8 x9 w Q):P26_2 x1 x2 x7 x8 x9 w Q:=pJ H26 Tryz.func26 h
theorem L26_3_ok(h:L26_3 x1 x2 x7 x8 w Q):P26_3 x1 x2 x7 x8 w Q:=pJ H26 Tryz.func26 h
theorem F27_ok(h:F27 a0 a1 a2 w Q):aa prog 27 [a0,a1,a2] w Q:=cG H27 Tryz.func27 h
theorem L27_0_ok(h:L27_0 x0 x1 x2 x7 x8 x9 w Q):P27_0 x0 x1 x2 x7 x8 x9 w Q:=pL H27 Tryz.func27 h
theorem L27_1_ok(h:L27_1 x0 x1 x2 x7 x8 x9 w Q):P27_1 x0 x1 x2 x7 x8 x9 w Q:=pJ H27 Tryz.func27 h
theorem F28_ok(h:F28 a0 a1 w Q):aa prog 28 [a0,a1] w Q:=cG H28 Tryz.func28 h
theorem L28_0_ok(h:L28_0 x0 x1 x5 x6 w Q):P28_0 x0 x1 x5 x6 w Q:=pL H28 Tryz.func28 h
theorem L28_1_ok(h:L28_1 x0 x1 x5 x6 w Q):P28_1 x0 x1 x5 x6 w Q:=pJ H28 Tryz.func28 h
theorem F29_ok(h:F29 a0 a1 w Q):aa prog 29 [a0,a1] w Q:=cG H29 Tryz.func29 h
theorem L29_0_ok(h:L29_0 x0 x1 x5 x6 w Q):P29_0 x0 x1 x5 x6 w Q:=pL H29 Tryz.func29 h
theorem L29_1_ok(h:L29_1 x0 x1 x5 x6 x7 w Q):P29_1 x0 x1 x5 x6 x7 w Q:=pJ H29 Tryz.func29 h
theorem F53_ok(h:F53 a0 a1 w Q):aa prog 53 [a0,a1] w Q:=cG H53 Tryz.func53 h
theorem L53_0_ok(h:L53_0 x0 x1 x5 w Q):P53_0 x0 x1 x5 w Q:=pJ H53 Tryz.func53 h
theorem F55_ok(h:F55 a0 w Q):aa prog 55 [a0] w Q:=cG H55 Tryz.func55 h
theorem L55_0_ok(h:L55_0 x1 x3 x4 w Q):P55_0 x1 x3 x4 w Q:=pJ H55 Tryz.func55 h
theorem L55_1_ok(h:L55_1 x1 x3 x4 w Q):P55_1 x1 x3 x4 w Q:=pJ H55 Tryz.func55 h
theorem L55_2_ok(h:L55_2 x4 w Q):P55_2 x4 w Q:=pJ H55 Tryz.func55 h
theorem F56_ok(h:F56 a0 a1 w Q):aa prog 56 [a0,a1] w Q:=cG H56 Tryz.func56 h
theorem F57_ok(h:F57 a0 a1 w Q):aa prog 57 [a0,a1] w Q:=cG H57 func57 h
theorem L57_0_ok(h:L57_0 x0 x1 x4 x6 x7 x20 x28 w Q):P57_0 x0 x1 x4 x6 x7 x20 x28 w Q:=pJ H57 func57 h
theorem L57_1_ok(h:L57_1 x0 x1 x4 x6 x7 w Q):P57_1 x0 x1 x4 x6 x7 w Q:=pJ H57 func57 h
theorem L57_2_ok(h:L57_2 x0 x1 x4 x6 x51 w Q):P57_2 x0 x1 x4 x6 x51 w Q:=pJ H57 func57 h
theorem L57_3_ok(h:L57_3 x0 x1 x4 x6 x7 w Q):P57_3 x0 x1 x4 x6 x7 w Q:=pJ H57 func57 h
theorem L57_4_ok(h:L57_4 x0 x1 x4 x6 x7 w Q):P57_4 x0 x1 x4 x6 x7 w Q:=pJ H57 func57 h
theorem L57_5_ok(h:L57_5 x4 x6 w Q):P57_5 x4 x6 w Q:=pJ H57 func57 h
theorem F58_ok(h:F58 a0 a1 w Q):aa prog 58 [a0,a1] w Q:=cG H58 Tryz.func58 h
theorem L58_0_ok(h:L58_0 x0 x1 x5 x7 x8 w Q):P58_0 x0 x1 x5 x7 x8 w Q:=pJ H58 Tryz.func58 h
theorem L58_1_ok(h:L58_1 x0 x1 x5 w Q):P58_1 x0 x1 x5 w Q:=pJ H58 Tryz.func58 h
theorem F90_ok(h:F90 a0 w Q):aa prog 90 [a0] w Q:=cG H90 Tryz.func90 h
theorem F91_ok(h:F91 a0 w Q):aa prog 91 [a0] w Q:=cG H91 Tryz.func91 h
theorem F92_ok(h:F92 a0 a1 w Q):aa prog 92 [a0,a1] w Q:=cG H92 Tryz.func92 h
theorem F93_ok(h:F93 a0 a1 w Q):aa prog 93 [a0,a1] w Q:=cG H93 Tryz.func93 h
theorem F94_ok(h:F94 a0 a1 w Q):aa prog 94 [a0,a1] w Q:=cG H94 Tryz.func94 h
theorem F95_ok(h:F95 a0 w Q):aa prog 95 [a0] w Q:=cG H95 Tryz.func95 h
theorem L95_0_ok(h:L95_0 x0 x4 w Q):P95_0 x0 x4 w Q:=pL H95 Tryz.func95 h
theorem L95_1_ok(h:L95_1 x0 x4 w Q):P95_1 x0 x4 w Q:=pJ H95 Tryz.func95 h
theorem F96_ok(h:F96 a0 w Q):aa prog 96 [a0] w Q:=cG H96 Tryz.func96 h
theorem F97_ok(h:F97  w Q):aa prog 97 [] w Q:=cG H97 Tryz.func97 h
theorem F98_ok(h:F98 a0 a1 w Q):aa prog 98 [a0,a1] w Q:=cG H98 Tryz.func98 h
theorem L98_0_ok(h:L98_0 x0 x1 x5 x6 w Q):P98_0 x0 x1 x5 x6 w Q:=pL H98 Tryz.func98 h
theorem L98_1_ok(h:L98_1 x0 x1 x5 x6 x7 w Q):P98_1 x0 x1 x5 x6 x7 w Q:=pL H98 Tryz.func98 h
theorem L98_2_ok(h:L98_2 x0 x1 x5 x6 x7 w Q):P98_2 x0 x1 x5 x6 x7 w Q:=pJ H98 Tryz.func98 h
theorem F99_ok(h:F99 a0 a1 w Q):aa prog 99 [a0,a1] w Q:=cG H99 Tryz.func99 h
theorem F100_ok(h:F100 a0 a1 w Q):aa prog 100 [a0,a1] w Q:=cG H100 Tryz.func100 h
theorem L100_0_ok(h:L100_0 x0 x1 x5 w Q):P100_0 x0 x1 x5 w Q:=pL H100 Tryz.func100 h
theorem F101_ok(h:F101 a0 a1 a2 w Q):aa prog 101 [a0,a1,a2] w Q:=cG H101 Tryz.func101 h
theorem L101_0_ok(h:L101_0 x0 x4 x5 w Q):P101_0 x0 x4 x5 w Q:=pJ H101 Tryz.func101 h
theorem L101_1_ok(h:L101_1  w Q):P101_1  w Q:=pJ H101 Tryz.func101 h
theorem F102_ok(h:F102 a0 w Q):aa prog 102 [a0] w Q:=cG H102 Tryz.func102 h
theorem L102_0_ok(h:L102_0  w Q):P102_0  w Q:=pJ H102 Tryz.func102 h
theorem L102_1_ok(h:L102_1 x0 w Q):P102_1 x0 w Q:=pJ H102 Tryz.func102 h
theorem L102_2_ok(h:L102_2 x0 x7 w Q):P102_2 x0 x7 w Q:=pJ H102 Tryz.func102 h
theorem F103_ok(h:F103 a0 a1 w Q):aa prog 103 [a0,a1] w Q:=cG (H103 λ_=>False) Tryz.func103 h
theorem L103_0_ok(h:L103_0 x0 x4 x5 w Q):P103_0 x0 x4 x5 w Q:=pJ (H103 λ_=>False) Tryz.func103 h
theorem L103_1_ok(h:L103_1 D x0 x4 x5 w Q):P103_1 x0 x4 x5 w Q:=pJ (H103 D) Tryz.func103 h
theorem L103_2_ok(h:L103_2 x0 x4 x5 w Q):P103_2 x0 x4 x5 w Q:=pJ (H103 λ_=>False) Tryz.func103 h
theorem F132_ok(h:F132 a0 a1 a2 a3 w Q):aa prog 132 [a0,a1,a2,a3] w Q:=cG H132 Tryz.func132 h
theorem F133_ok(h:F133 a0 w Q):aa prog 133 [a0] w Q:=cG H133 Tryz.func133 h
theorem F134_ok(h:F134 a0 w Q):aa prog 134 [a0] w Q:=cG H134 Tryz.func134 h
theorem F135_ok(h:F135  w Q):aa prog 135 [] w Q:=cG H135 Tryz.func135 h
theorem F136_ok(h:F136 a0 a1 a2 w Q):aa prog 136 [a0,a1,a2] w Q:=cG H136 Tryz.func136 h
theorem F137_ok(h:F137 a0 a1 w Q):aa prog 137 [a0,a1] w Q:=cG H137 Tryz.func137 h
theorem F138_ok(h:F138 a0 a1 w Q):aa prog 138 [a0,a1] w Q:=cG H138 Tryz.func138 h
theorem F139_ok(h:F139 a0 a1 a2 a3 w Q):aa prog 139 [a0,a1,a2,a3] w Q:=cG H139 Tryz.func139 h
theorem F140_ok(h:F140 a0 w Q):aa prog 140 [a0] w Q:=cG H140 Tryz.func140 h
theorem F141_ok(h:F141 a0 w Q):aa prog 141 [a0] w Q:=cG H141 Tryz.func141 h
theorem L141_0_ok(h:L141_0 x0 w Q):P141_0 x0 w Q:=pJ H141 Tryz.func141 h
theorem F142_ok(h:F142 a0 a1 a2 w Q):aa prog 142 [a0,a1,a2] w Q:=cG H142 Tryz.func142 h
theorem L142_0_ok(h:L142_0 x0 x1 x2 x7 w Q):P142_0 x0 x1 x2 x7 w Q:=pL H142 Tryz.func142 h
theorem F143_ok(h:F143 a0 a1 a2 w Q):aa prog 143 [a0,a1,a2] w Q:=cG H143 Tryz.func143 h
theorem F144_ok(h:F144 a0 w Q):aa prog 144 [a0] w Q:=cG H144 Tryz.func144 h
theorem F145_ok(h:F145 a0 w Q):aa prog 145 [a0] w Q:=cG H145 Tryz.func145 h
theorem L145_0_ok(h:L145_0  w Q):P145_0  w Q:=pJ H145 Tryz.func145 h
theorem F146_ok(h:F146 D a0 w Q):aa prog 146 [a0] w Q:=cG (H146 D) Tryz.func146 h
theorem L146_0_ok(h:L146_0  w Q):P146_0  w Q:=pJ (H146 λ_=>False) Tryz.func146 h
theorem F147_ok(h:F147 a0 w Q):aa prog 147 [a0] w Q:=cG H147 Tryz.func147 h
theorem F148_ok(h:F148 a0 w Q):aa prog 148 [a0] w Q:=cG H148 Tryz.func148 h
theorem F149_ok(h:F149 D a0 w Q):aa prog 149 [a0] w Q:=cG (H149 D) Tryz.func149 h
theorem L149_0_ok(h:L149_0 x0 x3 w Q):P149_0 x0 x3 w Q:=pJ (H149 λ_=>False) Tryz.func149 h
theorem L149_1_ok(h:L149_1  w Q):P149_1  w Q:=pJ (H149 λ_=>False) Tryz.func149 h
theorem F150_ok(h:F150 a0 a1 a2 w Q):aa prog 150 [a0,a1,a2] w Q:=cG H150 Tryz.func150 h
theorem F151_ok(h:F151 a0 w Q):aa prog 151 [a0] w Q:=cG H151 Tryz.func151 h
theorem L151_0_ok(h:L151_0  w Q):P151_0  w Q:=pJ H151 Tryz.func151 h
theorem F152_ok(h:F152 D a0 w Q):aa prog 152 [a0] w Q:=cG (H152 D) Tryz.func152 h
theorem L152_0_ok(h:L152_0  w Q):P152_0  w Q:=pJ (H152 λ_=>False) Tryz.func152 h
theorem F153_ok(h:F153 a0 a1 a2 a3 a4 a5 w Q):aa prog 153 [a0,a1,a2,a3,a4,a5] w Q:=cG H153 Tryz.func153 h
theorem F154_ok(h:F154 a0 w Q):aa prog 154 [a0] w Q:=cG H154 Tryz.func154 h
theorem F172_ok(h:F172 a0 a1 w Q):aa prog 172 [a0,a1] w Q:=cG H172 Tryz.func172 h
theorem F173_ok(h:F173 a0 a1 w Q):aa prog 173 [a0,a1] w Q:=cG H173 Tryz.func173 h
theorem F174_ok(h:F174 a0 a1 w Q):aa prog 174 [a0,a1] w Q:=cG H174 Tryz.func174 h
theorem F175_ok(h:F175 a0 a1 a2 w Q):aa prog 175 [a0,a1,a2] w Q:=cG H175 Tryz.func175 h
theorem F176_ok(h:F176 D a0 w Q):aa prog 176 [a0] w Q:=cG (H176 D) Tryz.func176 h
theorem L176_0_ok(h:L176_0  w Q):P176_0  w Q:=pJ (H176 λ_=>False) Tryz.func176 h
theorem F177_ok(h:F177 a0 w Q):aa prog 177 [a0] w Q:=cG H177 Tryz.func177 h
theorem F178_ok(h:F178 a0 w Q):aa prog 178 [a0] w Q:=cG H178 Tryz.func178 h
theorem F179_ok(h:F179 a0 a1 w Q):aa prog 179 [a0,a1] w Q:=cG H179 Tryz.func179 h
theorem F180_ok(h:F180 a0 a1 w Q):aa prog 180 [a0,a1] w Q:=cG H180 Tryz.func180 h
theorem F181_ok(h:F181 a0 w Q):aa prog 181 [a0] w Q:=cG H181 Tryz.func181 h
theorem F182_ok(h:F182 a0 a1 a2 w Q):aa prog 182 [a0,a1,a2] w Q:=cG H182 Tryz.func182 h
theorem F183_ok(h:F183 a0 w Q):aa prog 183 [a0] w Q:=cG H183 Tryz.func183 h
theorem F184_ok(h:F184 a0 a1 a2 a3 w Q):aa prog 184 [a0,a1,a2,a3] w Q:=cG H184 Tryz.func184 h
theorem F185_ok(h:F185 a0 a1 a2 w Q):aa prog 185 [a0,a1,a2] w Q:=cG H185 Tryz.func185 h
theorem F186_ok(h:F186 a0 w Q):aa prog 186 [a0] w Q:=cG H186 Tryz.func186 h
theorem F187_ok(h:F187 a0 w Q):aa prog 187 [a0] w Q:=cG H187 Tryz.func187 h
theorem L187_0_ok(h:L187_0  w Q):P187_0  w Q:=pJ H187 Tryz.func187 h
theorem L187_1_ok(h:L187_1 x0 w Q):P187_1 x0 w Q:=pJ H187 Tryz.func187 h
theorem F188_ok(h:F188 a0 w Q):aa prog 188 [a0] w Q:=cG H188 Tryz.func188 h
theorem F189_ok(h:F189 a0 a1 a2 w Q):aa prog 189 [a0,a1,a2] w Q:=cG H189 Tryz.func189 h
theorem F190_ok(h:F190 a0 w Q):aa prog 190 [a0] w Q:=cG H190 Tryz.func190 h
theorem F191_ok(h:F191 a0 w Q):aa prog 191 [a0] w Q:=cG H191 Tryz.func191 h
theorem F192_ok(h:F192 a0 w Q):aa prog 192 [a0] w Q:=cG H192 Tryz.func192 h
theorem F193_ok(h:F193 a0 a1 w Q):aa prog 193 [a0,a1] w Q:=cG H193 Tryz.func193 h
theorem F194_ok(h:F194 D a0 w Q):aa prog 194 [a0] w Q:=cG (H194 D) Tryz.func194 h
theorem L194_0_ok(h:L194_0 x0 w Q):P194_0 x0 w Q:=pJ (H194 λ_=>False) Tryz.func194 h
theorem L194_1_ok(h:L194_1 x0 w Q):P194_1 x0 w Q:=pJ (H194 λ_=>False) Tryz.func194 h
theorem F195_ok(h:F195 a0 w Q):aa prog 195 [a0] w Q:=cG H195 Tryz.func195 h
theorem F196_ok(h:F196 a0 a1 w Q):aa prog 196 [a0,a1] w Q:=cG H196 Tryz.func196 h
theorem F197_ok(h:F197 D a0 w Q):aa prog 197 [a0] w Q:=cG (H197 D) Tryz.func197 h
theorem L197_0_ok(h:L197_0  w Q):P197_0  w Q:=pJ (H197 λ_=>False) Tryz.func197 h
theorem F198_ok(h:F198 a0 a1 a2 w Q):aa prog 198 [a0,a1,a2] w Q:=cG H198 Tryz.func198 h
theorem F199_ok(h:F199 D a0 w Q):aa prog 199 [a0] w Q:=cG (H199 D) Tryz.func199 h
theorem L199_0_ok(h:L199_0  w Q):P199_0  w Q:=pJ (H199 λ_=>False) Tryz.func199 h
theorem F200_ok(h:F200 a0 w Q):aa prog 200 [a0] w Q:=cG H200 Tryz.func200 h
theorem F201_ok(h:F201 a0 w Q):aa prog 201 [a0] w Q:=cG H201 Tryz.func201 h
theorem L201_0_ok(h:L201_0 x0 w Q):P201_0 x0 w Q:=pJ H201 Tryz.func201 h
theorem F202_ok(h:F202 a0 a1 w Q):aa prog 202 [a0,a1] w Q:=cG H202 Tryz.func202 h
theorem F203_ok(h:F203 a0 w Q):aa prog 203 [a0] w Q:=cG H203 Tryz.func203 h
theorem F204_ok(h:F204 a0 a1 a2 w Q):aa prog 204 [a0,a1,a2] w Q:=cG H204 Tryz.func204 h
theorem F205_ok(h:F205 a0 a1 w Q):aa prog 205 [a0,a1] w Q:=cG H205 Tryz.func205 h
theorem F211_ok(h:F211 a0 a1 a2 w Q):aa prog 211 [a0,a1,a2] w Q:=cG H211 Tryz.func211 h
theorem F212_ok(h:F212 a0 a1 w Q):aa prog 212 [a0,a1] w Q:=cG H212 Tryz.func212 h
theorem F213_ok(h:F213 a0 a1 w Q):aa prog 213 [a0,a1] w Q:=cG H213 Tryz.func213 h
theorem F214_ok(h:F214 a0 a1 w Q):aa prog 214 [a0,a1] w Q:=cG H214 Tryz.func214 h
theorem F215_ok(h:F215 a0 w Q):aa prog 215 [a0] w Q:=cG H215 Tryz.func215 h
theorem L215_0_ok(h:L215_0 x0 w Q):P215_0 x0 w Q:=pJ H215 Tryz.func215 h
theorem F216_ok(h:F216 a0 w Q):aa prog 216 [a0] w Q:=cG H216 Tryz.func216 h
theorem L216_0_ok(h:L216_0 x3 w Q):P216_0 x3 w Q:=pJ H216 Tryz.func216 h
theorem F217_ok(h:F217 a0 w Q):aa prog 217 [a0] w Q:=cG H217 Tryz.func217 h
theorem F218_ok(h:F218 a0 w Q):aa prog 218 [a0] w Q:=cG H218 Tryz.func218 h
theorem F219_ok(h:F219 a0 a1 w Q):aa prog 219 [a0,a1] w Q:=cG H219 Tryz.func219 h
theorem F220_ok(h:F220 a0 a1 w Q):aa prog 220 [a0,a1] w Q:=cG H220 Tryz.func220 h
theorem F221_ok(h:F221 a0 a1 a2 w Q):aa prog 221 [a0,a1,a2] w Q:=cG H221 Tryz.func221 h
theorem L221_0_ok(h:L221_0 x0 x1 x2 x8 x9 w Q):P221_0 x0 x1 x2 x8 x9 w Q:=pJ H221 Tryz.func221 h
theorem F222_ok(h:F222 a0 a1 w Q):aa prog 222 [a0,a1] w Q:=cG H222 Tryz.func222 h
theorem F223_ok(h:F223 a0 w Q):aa prog 223 [a0] w Q:=cG H223 Tryz.func223 h
theorem F224_ok(h:F224 a0 w Q):aa prog 224 [a0] w Q:=cG H224 Tryz.func224 h
theorem F225_ok(h:F225 a0 a1 w Q):aa prog 225 [a0,a1] w Q:=cG H225 Tryz.func225 h
theorem L225_0_ok(h:L225_0 x0 x1 x5 w Q):P225_0 x0 x1 x5 w Q:=pL H225 Tryz.func225 h
theorem F226_ok(h:F226 a0 w Q):aa prog 226 [a0] w Q:=cG H226 Tryz.func226 h
theorem F227_ok(h:F227 a0 w Q):aa prog 227 [a0] w Q:=cG H227 Tryz.func227 h
theorem F228_ok(h:F228 a0 a1 w Q):aa prog 228 [a0,a1] w Q:=cG H228 Tryz.func228 h
theorem F229_ok(h:F229 a0 w Q):aa prog 229 [a0] w Q:=cG H229 Tryz.func229 h
theorem F230_ok(h:F230 a0 w Q):aa prog 230 [a0] w Q:=cG H230 Tryz.func230 h
theorem F231_ok(h:F231 a0 a1 w Q):aa prog 231 [a0,a1] w Q:=cG H231 Tryz.func231 h
theorem F232_ok(h:F232 a0 a1 w Q):aa prog 232 [a0,a1] w Q:=cG H232 Tryz.func232 h
theorem L232_0_ok(h:L232_0 x0 x1 x5 x6 w Q):P232_0 x0 x1 x5 x6 w Q:=pL H232 Tryz.func232 h
theorem L232_1_ok(h:L232_1 x0 x1 x5 x6 w Q):P232_1 x0 x1 x5 x6 w Q:=pJ H232 Tryz.func232 h
end
end Go.Proofs.YtnpflajdbchghaaGreat
namespace Go.Proofs.YtnpflajdbchghaaGreat.Ev
open Tryz(f26 f55 f57 f98 func57 prog underlying22)
open Go Go.RowKit
theorem bl.sq{F:Fp}{a b c:World}(h:bl F a b)(k:bl F b c):bl F a c:=(aO.trans (F:=F) (G:=F) (H:=F) ⟨h,λ_ d=> .inl d⟩ ⟨k,λ_ d=> .inl d⟩).aF
inductive fF where
 |v (u:Value)
 |gr (e:TypeId) (z n:Nat) (us:List Value)
inductive Nod where
 |st (o:Nat) (e:TypeId) (cs:List fF)
 |own (b k:Nat)
abbrev dH:=Nat->Option Nod
def fJ(w:World)(T:dH)(b k:Nat)(c:fF)(v:Value):Prop:=match c with
 | .v u=>v=u
 | .gr e z n us=>w.ownsRow 0 e z v n us/\∀p,v.ownBlock=some p->T p=some (.own b k)
structure mP(w:World)(T:dH)(b:Nat)(e:TypeId)(cs:List fF)(vs:List Value):Prop where
 hb:hp w b=some (.cells vs.toArray e)
 len:vs.length=cs.length
 each:∀(k:Nat) (c:fF) (v:Value),cs[k]? =some c->vs[k]? =some v->fJ w T b k c v
structure Rel(w:World)(T:dH):Prop where
 node:∀b o e cs,T b=some (.st o e cs)->∃vs,mP w T b e cs vs
 lt:∀b nd,T b=some nd->b<w.heap.size
theorem fJ.frame{w w':World}{T:dH}{b k:Nat}{c:fF}{v:Value}(h:fJ w T b k c v)(d:bl (λk=>T k=none) w w'):fJ w' T b k c v:=by
 cases c with
 |v u=>exact h
 |gr e z n us=>exact⟨d.row h.1 λp hp a=>(by rw[h.2 p hp]at a;cases a),h.2⟩
theorem Rel.frame{w w':World}{T:dH}(R:Rel w T)(a:bl (λk=>T k=none) w w'):Rel w' T:=
 ⟨λb o e cs hT=>by
  obtain⟨vs,h⟩:=R.node b o e cs hT;exact⟨vs,a.at h.hb (λd=>by rw[hT]at d;cases d),h.len,λk c v f g=>(h.each k c v f g).frame a⟩,
  λb i hT=>de (R.lt b i hT) a.size⟩
theorem Rel.aF{w w':World}{T:dH}(R:Rel w T)(a:ad [] w w'):Rel w' T:=R.frame (bl.bL a _)
theorem Rel.fresh{w:World}{T:dH}(R:Rel w T){b:Nat}(hb:w.heap.size<=b):T b=none:=by
 cases h:T b with
 |none=>rfl
 |some a=>have:=R.lt b a h;omega
structure Gx(S:Nat->Prop)(w:World)(T:dH)(w':World)(T':dH):Prop where
 rel:Rel w' T'
 aF:bl (λk=>T k≠none) w w'
 off:∀k nd,T k=some nd->¬S k->T' k=some nd
 own:∀k b j,T k=some (.own b j)->T' k=some (.own b j)
 non:∀k,k<w.heap.size->T k=none->T' k=none
 ty:∀k o e cs,T k=some (.st o e cs)->∃cs',T' k=some (.st o e cs')
theorem Gx.refl{S:Nat->Prop}{w:World}{T:dH}(R:Rel w T):Gx S w T w T:=⟨R,bl.refl _ _,λ_ _ h _=>h,λ_ _ _ h=>h,λ_ _ h=>h,λ_ _ _ cs h=>⟨cs,h⟩⟩
theorem Gx.bL{S:Nat->Prop}{w w':World}{T:dH}(R:Rel w T)(a:ad [] w w'):Gx S w T w' T:=⟨R.aF a,bl.bL a _,λ_ _ h _=>h,λ_ _ _ h=>h,λ_ _ h=>h,λ_ _ _ cs h=>⟨cs,h⟩⟩
theorem Gx.mono{S S':Nat->Prop}{w w':World}{T T':dH}(g:Gx S w T w' T')(h:∀k,S k->S' k):Gx S' w T w' T':=⟨g.rel,g.aF,λk a hT b=>g.off k a hT λc=>b (h k c),g.own,g.non,g.ty⟩
theorem Gx.trans{S:Nat->Prop}{w w1 w2:World}{T T1 T2:dH}(g:Gx S w T w1 T1)(h:Gx S w1 T1 w2 T2):Gx S w T w2 T2:=
 ⟨h.rel,⟨h.aF.os.trans g.aF.os,h.aF.tape.trans g.aF.tape,h.aF.output.trans g.aF.output,cU g.aF.size h.aF.size,λk c a=>by
  have a:T k=none:=Classical.not_not.1 a;have:=g.non k c a;rw[h.aF.block k (de c g.aF.size) (λhh=>hh this),g.aF.block k c (λhh=>hh a)]⟩,
  λk f hT a=>h.off k f (g.off k f hT a) a,λk b j hT=>h.own k b j (g.own k b j hT),λk c a=>h.non k (de c g.aF.size) (g.non k c a),λk o e cs hT=>(g.ty k o e cs hT).elim λd i=>h.ty k o e d i⟩
theorem Gx.then{S S':Nat->Prop}{w w1 w2:World}{T T1 T2:dH}(g:Gx S w T w1 T1)(h:Gx S' w1 T1 w2 T2)(i:∀k a,T k=some a->S' k->S k):Gx S w T w2 T2:=
 ⟨h.rel,(g.mono (S':=λk=>S k\/S' k) (λ_ h=> .inl h)).trans (h.mono λ_ h=> .inr h) |>.aF,
  λk a hT c=>h.off k a (g.off k a hT c) (λl=>c (i k a hT l)),λk b j hT=>h.own k b j (g.own k b j hT),λk f c=>h.non k (de f g.aF.size) (g.non k f c),λk o e cs hT=>(g.ty k o e cs hT).elim λd m=>h.ty k o e d m⟩
theorem Gx.size{S:Nat->Prop}{w w':World}{T T':dH}(g:Gx S w T w' T'):w.heap.size<=w'.heap.size:=g.aF.size
theorem Gx.loc{S:Nat->Prop}{w w':World}{T T':dH}(g:Gx S w T w' T'){b:Nat}{o:Obj}(hb:hp w b=some o)(a:T b=Option.none):hp w' b=some o/\T' b=Option.none:=
 ⟨g.aF.at hb λh=>h a,g.non b (aD hb) a⟩
structure Lo(w:World)(T:dH)(A:Option Addr)(us:List Value):Prop where
 rd:fp w A us
 off:∀p,A=some p->us≠ []->T p.block=none
theorem Lo.nil(w:World)(T:dH)(A:Option Addr):Lo w T A []:=⟨fp.nil w A,λ_ _ h=>absurd rfl h⟩
theorem rd_blt{w:World}{A:Option Addr}{us:List Value}(h:fp w A us){p:Addr}(hp:A=some p)(a:us≠ []):p.block<w.heap.size:=by
 cases us with
 |nil=>exact absurd rfl a
 |cons u us=>
  obtain⟨q,b,c⟩:=h 0 u rfl;rw[hp]at b;cases b;have:=qk c
  rwa[qY]at this
theorem rd_off{w w':World}{F:Nat->Prop}{A:Option Addr}{us:List Value}(h:fp w A us)(f:bl F w w')(g:∀p,A=some p->us≠ []->¬F p.block):fp w' A us:=λj u d=>by
 obtain⟨p,hp,a⟩:=h j u d;have b:us≠ []:=λe=>by rw[e]at d;simp at d
 refine⟨p,hp,?_⟩;have hb:w'.heap[p.block]? =w.heap[p.block]? :=f.block p.block (rd_blt h hp b) (g p hp b);have c:=qY p j;unfold World.cell? at a⊢;rw[c,hb]
 rwa[c]at a
theorem Lo.gx{S:Nat->Prop}{w w':World}{T T':dH}{A:Option Addr}{us:List Value}(h:Lo w T A us)(g:Gx S w T w' T'):Lo w' T' A us:=
 ⟨rd_off h.rd g.aF λp hp a b=>b (h.off p hp a),λp hp a=>g.non p.block (rd_blt h.rd hp a) (h.off p hp a)⟩
theorem Lo.aF{w w':World}{T:dH}{A:Option Addr}{us:List Value}(h:Lo w T A us)(a:ad [] w w'):Lo w' T A us:=⟨h.rd.ao a.below,h.off⟩
theorem Lo.new{w w':World}{T:dH}{A:Option Addr}{us:List Value}(R:Rel w T)(h:fp w' A us)(a:∀p,A=some p->w.heap.size<=p.block):Lo w' T A us:=⟨h,λp hp _=>R.fresh (a p hp)⟩
def ig(T:dH)(b:Nat)(a:Nod):dH:=λk=>if k=b then some a else T k
theorem ax{T:dH}{b:Nat}{a:Nod}:ig T b a b=some a:=bU rfl
theorem aC{T:dH}{b k:Nat}{a:Nod}(h:k≠b):ig T b a k=T k:=bV h
theorem lD{T:dH}{b p x j o:Nat}{e:TypeId}{cs:List fF}(h:T b=some (.st o e cs))(hp:T p=some (.own x j)):p≠b:=λa=>by subst a;rw[h]at hp;cases hp
theorem ay{T:dH}{b c o o':Nat}{e e':TypeId}{cs cs':List fF}(h:T b=some (.st o e cs))(d:T c=some (.st o' e' cs'))(a:e≠e'):b≠c:=λq=>by subst q;rw[h]at d;cases d;exact a rfl
theorem tQ{T:dH}{b c o o':Nat}{e e':TypeId}{cs cs':List fF}(h:T b=some (.st o e cs))(d:T c=some (.st o' e' cs'))(a:o≠o'):b≠c:=λq=>by subst q;rw[h]at d;cases d;exact a rfl
section
variable{w:World}{T:dH}{b o:Nat}{e:TypeId}{cs cs':List fF}{vs vs':List Value}
theorem fJ.put(hT:T b=some (.st o e cs)){x k:Nat}{c:fF}{v:Value}{f:Nod}(a:Array Value)(h:fJ w T x k c v)(d:∀p,T p=some (.own x k)->p≠b):fJ (Ev.put w b a e) (ig T b f) x k c v:=by
 cases c with
 |v u=>exact h
 |gr e' z n us=>exact⟨(bl.put w b a e).row h.1 λp hp=>d p (h.2 p hp),λp hp=>by rw[aC (d p (h.2 p hp))];exact h.2 p hp⟩
theorem Gx.put(R:Rel w T)(hT:T b=some (.st o e cs))(r:vs'.length=cs'.length)(s:∀(k:Nat) (c:fF) (v:Value),cs'[k]? =some c->vs'[k]? =some v->fJ w T b k c v):
  Gx (λk=>k=b) w T (Ev.put w b vs'.toArray e) (ig T b (.st o e cs')):=by
 have g:=R.lt b _ hT;have a:∀x k p,T p=some (.own x k)->p≠b:=λx k p hp=>lD hT hp;refine⟨⟨λx o' e' t f=>?_,λx u f=>?_⟩,(bl.put w b _ e).mono λk i=>by rw[i,hT];simp,λk u d l=>by rw[aC l];exact d,λk x j h=>by rw[aC (a x j k h)];exact h,λk i m=>by
  rw[aC λh=>by subst h;rw[hT]at m;cases m];exact m,λk y z n d=>by
  by_cases i:k=b
  ·subst i;rw[hT]at d;cases d;exact⟨_,ax⟩
  ·exact⟨n,by rw[aC i];exact d⟩⟩
 ·by_cases h:x=b
  ·subst h;rw[ax]at f;cases f;exact⟨vs',ar g _ _,r,λk c v d l=>(s k c v d l).put hT _ (a _ _)⟩
  ·rw[aC h]at f;obtain⟨us,q⟩:=R.node x _ _ _ f;exact⟨us,by rw[bj h];exact q.hb,q.len,λk c v d l=>(q.each k c v d l).put hT _ (a _ _)⟩
 ·rw[nt];by_cases h:x=b
  ·subst h;exact g
  ·rw[aC h]at f;exact R.lt x _ f
theorem cells_v(k:Nat)(c:fF)(v:Value)(h:(vs.map fF.v)[k]? =some c)(a:vs[k]? =some v):fJ w T b k c v:=by
 rw[cN,a]at h;cases h;rfl
theorem Rel.kK(R:Rel w T)(hT:T b=some (.st o e (vs.map fF.v))):hp w b=some (.cells vs.toArray e):=by
 obtain⟨us,h⟩:=R.node b _ _ _ hT;have:us=vs:=by
  apply List.ext_getElem?;intro k;rcases dh k vs.length with hk|hk
  ·have a:=h.len;rw[List.length_map]at a;rw[bX dB,bX hk];have:=h.each k (.v vs[k]) us[k] (by rw[cN,bX hk];rfl) (bX dB);exact congrArg some this
  ·have a:=h.len;rw[List.length_map]at a;rw[List.getElem?_eq_none dB,List.getElem?_eq_none dB]
 rw[<- this];exact h.hb
theorem Gx.putv(R:Rel w T)(hT:T b=some (.st o e cs))(vs':List Value):Gx (λk=>k=b) w T (Ev.put w b vs'.toArray e) (ig T b (.st o e (vs'.map fF.v))):=
 Gx.put R hT (by simp) λk c v h a=>cells_v k c v h a
theorem Gx.new{S:Nat->Prop}(R:Rel w T)(o:Nat)(e:TypeId)(r:vs.length=cs.length)(s:∀(k:Nat) (c:fF) (v:Value),cs[k]? =some c->vs[k]? =some v->fJ w T w.heap.size k c v):
  Gx S w T (w.alloc (.cells vs.toArray e)) (ig T w.heap.size (.st o e cs)):=by
 have i:ad [] w (w.alloc (.cells vs.toArray e)):=(ad.refl _ _).alloc _;have y:T w.heap.size=Option.none:=R.fresh (cy _);have g:∀k f,T k=some f->k≠w.heap.size:=λk f h=>by have:=R.lt k f h;omega
 have q:∀{x k c v},fJ w T x k c v->fJ (w.alloc (.cells vs.toArray e)) (ig T w.heap.size (.st o e cs)) x k c v:=fun{x k c v} h=>by
  have a:=h.frame (bl.bL i _);cases c with
  |v u=>exact a
  |gr e' z n us=>exact⟨a.1,λp hp=>by rw[aC (g p _ (a.2 p hp))];exact a.2 p hp⟩
 refine⟨⟨λx o' e' t d=>?_,λx f d=>?_⟩,bl.bL i _,λk f b a=>by rw[aC (g k f b)];exact b,λk x j h=>by rw[aC (g k _ h)];exact h,λk A h=>by rw[aC dB];exact h,λk B C l b=>⟨l,by rw[aC (g k _ b)];exact b⟩⟩
 ·by_cases h:x=w.heap.size
  ·subst h;rw[ax]at d;cases d;exact⟨vs,by rw[af,bU rfl],r,λk c v b a=>q (s k c v b a)⟩
  ·rw[aC h]at d;obtain⟨us,m⟩:=R.node x _ _ _ d;exact⟨us,i.at m.hb (by simp),m.len,λk c v b a=>q (m.each k c v b a)⟩
 ·rw[ah];by_cases h:x=w.heap.size
  ·omega
  ·rw[aC h]at d;have:=R.lt x _ d;omega
end
section
variable{w w1:World}{T:dH}{b o:Nat}{e:TypeId}{cs cs':List fF}{vs vs':List Value}
theorem Gx.pR{S:Nat->Prop}(R:Rel w T)(o:Nat)(e:TypeId)(vs:List Value):Gx S w T (w.alloc (.cells vs.toArray e)) (ig T w.heap.size (.st o e (vs.map fF.v))):=
 Gx.new R o e (by simp) λk c v h a=>cells_v k c v h a
theorem tR{k:Nat}{e':TypeId}{z:Nat}:fJ w T b k (.gr e' z 0 []) (.slice none 0 0):=⟨World.ownsRow_nil _ _ _ _,λp hp=>by cases hp⟩
theorem Gx.grow(R:Rel w T)(hT:T b=some (.st o e cs))(N:mP w T b e cs vs){k:Nat}{v v':Value}{e':TypeId}{z n Y:Nat}{us G:List Value}(M:cs[k]? =some (.gr e' z n us))(hv:vs[k]? =some v)
  (l:bl (λq=>v.ownBlock=some q) w w1) (Z:hI w v v') (ho:w1.ownsRow 0 e' z v' Y G)
  (hl:vs'.length=cs'.length) (O:cs'[k]? =some (.gr e' z Y G)) (P:vs'[k]? =some v') (he:∀(j:Nat) (c:fF) (u:Value),j≠k->cs'[j]? =some c->vs'[j]? =some u->fJ w T b j c u):
  hp w1 b=hp w b/\∃T',T' b=some (.st o e cs')/\Gx (λq=>q=b) w T (Ev.put w1 b vs'.toArray e) T':=by
 have H:=N.each k _ v M hv;have g:∀q,v.ownBlock=some q->T q=some (.own b k):=H.2;have Q:hp w1 b=hp w b:=l.block b (R.lt b _ hT) λh=>lD hT (g b h) rfl;let T1:dH:=λq=>if v'.ownBlock=some q then some (.own b k)else T q
 have y:∀q,¬v'.ownBlock=some q->T1 q=T q:=λq h=>bV h;have B:∀q,v'.ownBlock=some q->T1 q=some (.own b k):=λq h=>bU h;have m:∀q C,T q=some C->T1 q=some C:=λq C h=>by
  by_cases d:v'.ownBlock=some q
  ·rw[B q d];rcases Z q d with h1|h1
   ·rw[g q h1]at h;exact h
   ·have:=R.lt q C h;omega
  ·rw[y q d];exact h
 have I:∀{x j c u},fJ w T x j c u->(x,j)≠(b,k)->fJ w1 T1 x j c u:=fun{x j c u} h D=>by
  cases c with
  |v u'=>exact h
  |gr F z2 n2 a7=>
   refine⟨l.row h.1 λq d A=>?_,λq d=>m q _ (h.2 q d)⟩;have a:=h.2 q d;rw[g q A]at a;cases a;exact D rfl
 have J:∀q,v'.ownBlock=some q->q<w1.heap.size:=λq d=>(ho.lt q d).2;have S:∀x o' F r,T x=some (.st o' F r)->x≠b->∃us,mP w1 T1 x F r us:=λx o' F r f D=>by
  obtain⟨us,E⟩:=R.node x _ _ _ f;exact⟨us,l.at E.hb (λh=>lD f (g x h) rfl),E.len,λj c u h1 t=>I (E.each j c u h1 t) (λh=>D (congrArg Prod.fst h))⟩
 have K:T1 b=some (.st o e cs):=m b _ hT;have L:∀x j c u,(x≠b->fJ w1 T1 x j c u)->(x=b->fJ w1 T1 x j c u)->fJ (Ev.put w1 b vs'.toArray e) (ig T1 b (.st o e cs')) x j c u:=λx j c u h U=>by
  have t:fJ w1 T1 x j c u:=by
   by_cases f:x=b
   ·exact U f
   ·exact h f
  exact t.put K _ λp hp=>lD K hp
 refine⟨Q,ig T1 b (.st o e cs'),ax,⟨⟨λx o' F r f=>?_,λx C f=>?_⟩,?_,λq C h1 t=>by rw[aC t];exact m q C h1,λq x j h=>by rw[aC (lD hT h)];exact m q _ h,λq d i=>?_,λq o1 e1 V h1=>by
  by_cases M:q=b
  ·subst M;rw[hT]at h1;cases h1;exact⟨_,ax⟩
  ·exact⟨V,by rw[aC M];exact m q _ h1⟩⟩⟩
 ·by_cases h:x=b
  ·subst h;rw[ax]at f;cases f;refine⟨vs',ar (by have:=R.lt x _ hT;have:=l.size;omega) _ _,hl,λj c u h1 t=>L x j c u (λh=>absurd rfl h) λ_=>?_⟩;by_cases W:j=k
   ·subst W;rw[O]at h1;rw[P]at t;cases h1;cases t;exact⟨ho,B⟩
   ·exact I (he j c u W h1 t) (λh=>W (congrArg Prod.snd h))
  ·rw[aC h]at f;have X:T x=some (.st o' F r):=by
    by_cases d:v'.ownBlock=some x
    ·rw[B x d]at f;cases f
    ·rw[<- y x d];exact f
   obtain⟨us,E⟩:=S x _ _ _ X h;exact⟨us,by rw[bj h];exact E.hb,E.len,λj c u h1 t=>L x j c u (λ_=>E.each j c u h1 t) λU=>absurd U h⟩
 ·rw[nt];have s:=l.size;by_cases h:x=b
  ·subst h;have:=R.lt x _ hT;omega
  ·rw[aC h]at f;by_cases d:v'.ownBlock=some x
   ·exact J x d
   ·rw[y x d]at f;have:=R.lt x _ f;omega
 ·have p:=bl.put w1 b vs'.toArray e;refine⟨p.os.trans l.os,p.tape.trans l.tape,p.output.trans l.output,cU l.size p.size,λq d i=>?_⟩;have i:T q=Option.none:=Classical.not_not.1 i;rw[p.block q (de d l.size) (λh=>by rw[h,hT]at i;cases i)];exact l.block q d λh=>by rw[g q h]at i;cases i
 ·have h1:q≠b:=λh=>by rw[h,hT]at i;cases i
  rw[aC h1];by_cases A:v'.ownBlock=some q
  ·rcases Z q A with h|h
   ·rw[g q h]at i;cases i
   ·omega
  ·rw[y q A];exact i
theorem Gx.rowset(R:Rel w T)(hT:T b=some (.st o e cs))(N:mP w T b e cs vs){k:Nat}{v:Value}{e':TypeId}{z n:Nat}{us xs:List Value}(y:cs[k]? =some (.gr e' z n us))(J:vs[k]? =some v){p i:Nat}(hp:v.ownBlock=some p)(L:i+xs.length<=n*z):
  pY (Ev.hp w p) (i+xs.length)=true/\p≠b/\Gx (λq=>q=b) w T (Ev.put w p (m7 (dL (Ev.hp w p)) i xs) (dM (Ev.hp w p))) (ig T b (.st o e (cs.set k (.gr e' z n (us.take i++xs++us.drop (i+xs.length)))))):=by
 have d:=N.each k _ v y J;have m:=d.2 p hp;obtain⟨A,M⟩:=oy (vs:=xs) d.1 hp L;have B:p≠b:=lD hT m;have f:=bl.put w p (m7 (dL (Ev.hp w p)) i xs) (dM (Ev.hp w p));generalize Ev.put w p (m7 (dL (Ev.hp w p)) i xs) (dM (Ev.hp w p))=w' at*;have K:∀{x j c u},fJ w T x j c u->(x,j)≠(b,k)->∀D,fJ w' (ig T b D) x j c u:=fun{x j c u} h E D=>by
  cases c with
  |v U=>exact h
  |gr O V W C=>
   refine⟨f.row h.1 λq g F=>?_,λq g=>by rw[aC (lD hT (h.2 q g))];exact h.2 q g⟩;have a:=h.2 q g;rw[F,m]at a;cases a;exact E rfl
 refine⟨M,B,⟨⟨λx o' O P r=>?_,λx D r=>?_⟩,f.mono λq g=>by rw[g,m];simp,λq D l t=>by rw[aC t];exact l,λq x j h=>by rw[aC (lD hT h)];exact h,λq g G=>by
  rw[aC λh=>by rw[h,hT]at G;cases G];exact G,λq X Y H A=>by
  by_cases y:q=b
  ·subst y;rw[hT]at A;cases A;exact⟨_,ax⟩
  ·exact⟨H,by rw[aC y];exact A⟩⟩⟩
 ·by_cases h:x=b
  ·subst h;rw[ax]at r;cases r;refine⟨vs,f.at N.hb (λh=>B h.symm),by rw[cE];exact N.len,λj c u l t=>?_⟩;by_cases I:j=k
   ·subst I;rw[cR,bU rfl,bU (bY.1 y).1]at l;rw[J]at t;cases l;cases t;exact⟨A,λq g=>by rw[aC (lD hT (d.2 q g))];exact d.2 q g⟩
   ·rw[cR,bV (λh=>I h.symm)]at l;exact K (N.each j c u l t) (λh=>I (congrArg Prod.snd h)) _
  ·rw[aC h]at r;obtain⟨C,l⟩:=R.node x _ _ _ r;exact⟨C,f.at l.hb (λh=>by rw[h,m]at r;cases r),l.len,λj c u t Q=>K (l.each j c u t Q) (λS=>h (congrArg Prod.fst S)) _⟩
 ·have s:=f.size;by_cases h:x=b
  ·subst h;have:=R.lt x _ hT;omega
  ·rw[aC h]at r;have:=R.lt x _ r;omega
end
theorem own_newE{w1:World}{e:TypeId}{z n:Nat}{v:Value}{cs:List Value}{base:Nat}(h:w1.ownsRow base e z v n cs):∀k,v.ownBlock=some k->base<=k:=λk a=>by
 obtain⟨A,c,rfl,_,b,_⟩:=aT h;cases A with
 |none=>simp[Value.ownBlock]at a
 |some p=>simp[Value.ownBlock]at a;rw[<- a];exact(b p rfl).1
theorem cp_flat{P:Program}{w:World}{K:Value->World->Prop}{t e:TypeId}{i:TypeInfo}{z:Value}{size:Nat}{A:Option Addr}{n c:Nat}{us:List Value}(g:P.underlying t=some (.slice e))(l:P.info? e=some i)(o:i.zero=some z)(p:i.size=size)(a:z.cells.size=size)(q:0<size)
  (r:us.length=n*size) (s:fp w A us) (y:∀u∈us,∃k x,u= .int k x) (B:n<=1000000) (hb:i.bytes<=1000)
  (d:∀v w',aZ e size n (us.map kY) w' (λb=>v.ownBlock=some b) v->(∀ k,v.ownBlock=some k->w.heap.size<=k)->ad [] w w'->K v w'):
  cP P (Builtin.append_ #[t,t] t #[.slice none 0 0,.slice A n c]) w K:=by
 have C:n*i.bytes<=1000000*1000:=Nat.mul_le_mul B hb;refine ja (base:=w.heap.size) (xs:= []) (n:=0) (news:=us) (m:=n) g l o p a q (World.ownsRow_nil _ _ _ _) r (λj u D=>s j u D) (λu E=>?_) (by unfold maxLen;omega) (by rw[cM];omega) (cy _) λx1 w1 f F=>?_
 ·obtain⟨k,x,rfl⟩:=y u E;rfl
 ·have G:ad [] w w1:=(ad.refl _ _).grown F λk d=>by simp[Value.ownBlock]at d
  rw[List.nil_append,cM]at f;exact d x1 w1 (pC f) (own_newE f) G
theorem flat_src{w:World}{e:TypeId}{z n:Nat}{us:List Value}{v:Value}(h:∃F,aZ e z n (us.map kY) w F v):∃A c,v= .slice A n c/\fp w A us:=by
 obtain⟨F,h⟩:=h;obtain⟨a,_⟩:=gN h;obtain⟨A,c,e,r,_⟩:=aT a;exact⟨A,c,e,r⟩
end Go.Proofs.YtnpflajdbchghaaGreat.Ev
namespace Go.Proofs.YtnpflajdbchghaaGreat
open Tryz(f26 f55 f57 f98 func57 prog underlying22)
open Go Ev Go.RowKit
abbrev sR(x:Int):Prop:=0<=x/\x<=18446744073709551615
section
variable{w:World}{c:cx}
theorem tdv{a b:Int}(h:0<=a):a.tdiv b=a/b:=Int.tdiv_eq_ediv_of_nonneg h
theorem tmd{a b:Int}(h:0<=a):a.tmod b=a%b:=Int.tmod_eq_emod_of_nonneg h
def hdA(i t:Int):Array Value:= #[bN i,bN t]
def lN(r:RtV):Array Value:= #[bN r.gen,bN r.mark,bN r.cls,bN r.off]
theorem ld_hd{b:Nat}{e:TypeId}{i t:Int}(h:hp w b=some (.cells (hdA i t) e)):gi prog 209 (bS b) w=some (.agg (hdA i t)):=aR (t:=209) (c:=hdA i t) ag_209 (show(Tryz.prog.info? 209).map (·.size)=some (hdA i t).size from sz_209) h
theorem sf{b:Nat}{e:TypeId}{r:RtV}(h:hp w b=some (.cells (lN r) e)):gi prog 231 (bS b) w=some (.agg (lN r)):=aR (t:=231) (c:=lN r) ag_231 (show(Tryz.prog.info? 231).map (·.size)=some (lN r).size from sz_231) h
theorem st_hd{b:Nat}{e:TypeId}{z:Array Value}{i t:Int}{L:World->Prop}(h:hp w b=some (.cells z e))(a:z.size=2):ck prog (Instr.storeAt 209 (bS b) (.agg (hdA i t))) w L=L (put w b (hdA i t) e):=by
 rw[st_209 rfl rfl (by rw[h,bq];exact cr dB) (by rw[h];exact a),h];rfl
theorem st_rt{b:Nat}{e:TypeId}{z:Array Value}{r:RtV}{L:World->Prop}(h:hp w b=some (.cells z e))(a:z.size=4):ck prog (Instr.storeAt 231 (bS b) (.agg (lN r))) w L=L (put w b (lN r) e):=by
 rw[st_231 rfl rfl (by rw[h,bq];exact cr dB) (by rw[h];exact a),h];rfl
theorem bd_hd{i t:Int}:ai prog (Instr.build 209 #[(0,bN i),(1,bN t)])=some (.agg (hdA i t)):=bd_209_0_1
theorem bd_rt{g m k o:Int}:ai prog (Instr.build 231 #[(0,bN g),(1,bN m),(2,bN k),(3,bN o)])=some (.agg (lN ⟨g,m,k,o⟩)):=bd_231_0_1_2_3
theorem hd_bd{x:Int}(h:sR x): -1<=hdI x/\hdI x<4294967295/\0<=hdG x/\hdG x<=4294967295:=by unfold hdI hdG;omega
theorem c_GetHead{x:Int}(h:sR x):aa prog 227 [bR x] w λv w'=>v= .agg (hdA (hdI x) (hdG x))/\ad [] w w':=by
 apply F227_ok;obtain⟨a,b⟩:=h;simp(disch:=omega) only[F227,al_209,zS,km,kN,tmd,tdv,cv_33_3,ap,nr,aH,bd_hd];rw[st_hd (by rw[af,bU rfl]) rfl];have hb:hp (put (w.alloc (.cells #[Value.int IntKind.i64 0,Value.int IntKind.i64 0] 209)) w.heap.size (hdA (x%4294967296-1) (x/4294967296)) 209) w.heap.size=some (.cells (hdA (x%4294967296-1) (x/4294967296)) 209):=ar (by simp) _ _;simp only[ld_hd hb,ac];exact⟨by first|rfl|trivial,((ad.refl _ _).alloc _).put (.inr (cy _)) _ _⟩
theorem c_PutHead(i t:Int):aa prog 133 [.agg (hdA i t)] w λv w'=>∃b,v= .tuple #[bR (putHd i t),.bool b]/\ad [] w w':=by
 apply F133_ok;have a:ad [] w (w.alloc (.cells (hdA i t) 209)):=(ad.refl _ _).alloc _;have j:hp (w.alloc (.cells (hdA i t) 209)) w.heap.size=some (.cells (hdA i t) 209):=by rw[af,bU rfl]
 have c:an (hp (w.alloc (.cells (hdA i t) 209)) w.heap.size) (0+0)=some (bN i):=by rw[j];rfl
 have e:an (hp (w.alloc (.cells (hdA i t) 209)) w.heap.size) (0+1)=some (bN t):=by rw[j];rfl
 have no:¬(-1<=i/\i<4294967295/\0<=t/\t<=4294967295)->putHd i t=0:=λh=>by rw[putHd,bV h]
 simp only[F133,ak,aq,fa_209_0,fa_209_1,ag,c,e,ac,aG];by_cases d:i< -1
 ·simp only[zS,d];rw[no dB];exact⟨_,rfl,a⟩
 by_cases f:4294967295<=i
 ·simp only[zS,ag,c,d,f];rw[no dB];exact⟨_,rfl,a⟩
 by_cases g:t<0
 ·simp only[zS,ag,c,e,d,f,g];rw[no dB];exact⟨_,rfl,a⟩
 by_cases k:4294967295<t
 ·simp only[zS,ag,c,e,d,f,g,k];rw[no dB];exact⟨_,rfl,a⟩
 simp(disch:=omega) only[zS,ag,c,e,d,f,g,k,kX,jB,aj,nr,ap];rw[putHd,bU dB];exact⟨_,rfl,a⟩
theorem c_Next(i t j:Int)(l:t<=4294967295):aa prog 228 [.agg (hdA i t),bN j] w λv w'=>v= .agg (hdA j (nextT t))/\ad [] w w':=by
 apply F228_ok;simp only[F228,ak,aq,al_209];generalize b:(w.alloc (.cells (hdA i t) 209)).alloc _=w1;have g:ad [] w w1:=by rw[<- b];exact((ad.refl _ _).alloc _).alloc _
 have k:hp w1 w.heap.size=some (.cells (hdA i t) 209):=by rw[<- b,af,ah,bV dB,af,bU rfl]
 have c:hp w1 (w.heap.size+1)=some (.cells (hdA 0 0) 209):=by rw[<- b,af,ah,bU rfl];rfl
 clear b;have e:an (hp w1 w.heap.size) (0+1)=some (bN t):=by rw[k];rfl
 have fin:∀u,hp (put w1 (w.heap.size+1) (hdA j u) 209) (w.heap.size+1)=some (.cells (hdA j u) 209):=λu=>ar (aD c) _ _;have a:∀u,ad [] w (put w1 (w.heap.size+1) (hdA j u) 209):=λu=>g.put (.inr dB) _ _;simp only[fa_209_1,ag,e,ac,aG,ah];by_cases d:t<0
 ·simp only[zS,d,bd_hd,st_hd c rfl,ld_hd (fin _)];exact⟨by rw[nextT,bU (.inl d)],a _⟩
 by_cases f:4294967295<=t
 ·simp only[zS,ag,e,d,f,bd_hd,st_hd c rfl,ld_hd (fin _)];exact⟨by rw[nextT,bU (.inr f)],a _⟩
 simp(disch:=omega) only[zS,ag,e,d,f,aj,ap,bd_hd,st_hd c rfl,ld_hd (fin _)];exact⟨by rw[nextT,bV dB],a _⟩
theorem c_next{x:Int}(h:sR x)(j:Int):aa prog 214 [bR x,bN j] w λv w'=>v=bR (r5 x j)/\ad [] w w':=by
 apply F214_ok;simp only[F214];refine(c_GetHead h).mono ?_;rintro _ w1 ⟨rfl,a⟩;refine(c_Next _ _ j (hd_bd h).2.2.2).mono ?_;rintro _ w2 ⟨rfl,c⟩;refine(c_PutHead j _).mono ?_;rintro _ e ⟨b,rfl,d⟩;simp only[kG,kH,ac];exact⟨by first|rfl|trivial,(a.trans c).trans d⟩
theorem iO{x:Int}(h:sR x):aa prog 178 [bR x] w λv w'=>v= .agg (lN (aP x))/\ad [] w w':=by
 apply F178_ok;obtain⟨a,b⟩:=h;simp(disch:=omega) only[F178,tE,zS,km,kN,tmd,tdv,cv_33_3,ap,nr,bd_rt];rw[st_rt (by rw[af,bU rfl]) rfl];have hb:hp (put (w.alloc (.cells #[Value.int IntKind.i64 0,Value.int IntKind.i64 0,Value.int IntKind.i64 0,Value.int IntKind.i64 0] 231)) w.heap.size (lN (aP x)) 231) w.heap.size=some (.cells (lN (aP x)) 231):=ar (by simp) _ _;rw[show(⟨x/4294967296,x/65536%65536,x/4096%16,x%4096⟩:RtV)=aP x from rfl];simp only[sf hb,ac];exact⟨by first|rfl|trivial,((ad.refl _ _).alloc _).put (.inr (cy _)) _ _⟩
theorem rt_bd{x:Int}(h:sR x):(0<=(aP x).gen/\(aP x).gen<=4294967295)/\(0<=(aP x).mark/\(aP x).mark<=65535)/\(0<=(aP x).cls/\(aP x).cls<=15)/\(0<=(aP x).off/\(aP x).off<=4095):=by
 unfold aP;simp only;omega
theorem sS(r:RtV):aa prog 181 [.agg (lN r)] w λv w'=>∃b,v= .tuple #[bR (lB r),.bool b]/\ad [] w w':=by
 apply F181_ok;have e:ad [] w (w.alloc (.cells (lN r) 231)):=(ad.refl _ _).alloc _;have f:hp (w.alloc (.cells (lN r) 231)) w.heap.size=some (.cells (lN r) 231):=by rw[af,bU rfl]
 simp only[F181,ak,aq];generalize w.alloc (.cells (lN r) 231)=w1 at*;have l:an (hp w1 w.heap.size) (0+0)=some (bN r.gen):=by rw[f];rfl
 have m:an (hp w1 w.heap.size) (0+1)=some (bN r.mark):=by rw[f];rfl
 have n:an (hp w1 w.heap.size) (0+2)=some (bN r.cls):=by rw[f];rfl
 have o:an (hp w1 w.heap.size) (0+3)=some (bN r.off):=by rw[f];rfl
 have no:¬((0<=r.gen/\r.gen<=4294967295)/\(0<=r.mark/\r.mark<=4097)/\(0<=r.cls/\r.cls<=3)/\(0<=r.off/\r.off<=1024))->lB r=0:=λh=>by rw[lB,bV h]
 simp only[fa_231_0,ag,l,ac];refine(oG _ _ _ w1).step ?_;by_cases a:0<=r.gen/\r.gen<=4294967295
 case neg=>
  simp only[zS,bZ a];rw[no (λh=>a h.1)];exact⟨_,rfl,e⟩
 simp only[zS,cr a,mC,ag,m];refine(oG _ _ _ w1).step ?_;by_cases c:0<=r.mark/\r.mark<=4097
 case neg=>
  simp only[zS,bZ c];rw[no (λh=>c h.2.1)];exact⟨_,rfl,e⟩
 simp only[zS,cr c,fa_231_2,ag,n];refine(oG _ _ _ w1).step ?_;by_cases d:0<=r.cls/\r.cls<=3
 case neg=>
  simp only[zS,bZ d];rw[no (λh=>d h.2.2.1)];exact⟨_,rfl,e⟩
 simp only[zS,cr d,pq,ag,o];refine(oG _ _ _ w1).step ?_;by_cases g:0<=r.off/\r.off<=1024
 case neg=>
  simp only[zS,bZ g];rw[no (λh=>g h.2.2.2)];exact⟨_,rfl,e⟩
 obtain⟨a,i⟩:=a;obtain⟨c,j⟩:=c;obtain⟨d,k⟩:=d;simp(disch:=omega) only[zS,cr g,l,m,n,o,kX,jB,aj,nr];rw[lB,bU ⟨⟨a,i⟩,⟨c,j⟩,⟨d,k⟩,g⟩];exact⟨_,rfl,e⟩
theorem c_Live(r:RtV)(gen:Int):aa prog 193 [.agg (lN r),bN gen] w λv w'=>v= .bool (ma r gen)/\ad [] w w':=by
 apply F193_ok;have c:ad [] w (w.alloc (.cells (lN r) 231)):=(ad.refl _ _).alloc _;have d:hp (w.alloc (.cells (lN r) 231)) w.heap.size=some (.cells (lN r) 231):=by rw[af,bU rfl]
 simp only[F193,ak,aq];generalize w.alloc (.cells (lN r) 231)=w1 at*;have e:an (hp w1 w.heap.size) (0+0)=some (bN r.gen):=by rw[d];rfl
 have f:an (hp w1 w.heap.size) (0+1)=some (bN r.mark):=by rw[d];rfl
 simp only[fa_231_0,mC,ag,f,ac,mM];by_cases a:1<=r.mark
 ·simp only[zS,cr a,ag,e];refine⟨?_,c⟩;by_cases b:r.gen=gen
  ·rw[ma,cr a,cr b,b];simp
  ·rw[ma,cr a,bZ b,aW b];rfl
 ·simp only[zS,bZ a];exact⟨by rw[ma,bZ a];rfl,c⟩
theorem c_Chunk(r:RtV)(h:r.mark<=65535):aa prog 186 [.agg (lN r)] w λv w'=>v=bN (ed r)/\ad [] w w':=by
 apply F186_ok;have b:ad [] w (w.alloc (.cells (lN r) 231)):=(ad.refl _ _).alloc _;have d:hp (w.alloc (.cells (lN r) 231)) w.heap.size=some (.cells (lN r) 231):=by rw[af,bU rfl]
 simp only[F186,ak,aq];generalize w.alloc (.cells (lN r) 231)=w1 at*;have c:an (hp w1 w.heap.size) (0+1)=some (bN r.mark):=by rw[d];rfl
 by_cases a:r.mark<2
 ·simp only[mC,ag,c,zS,a];exact⟨by rw[ed,bU a],b⟩
 ·simp(disch:=omega) only[mC,ag,c,zS,a,aH,ap];exact⟨by rw[ed,bV a],b⟩
theorem c_Cut5{x:Int}(h:sR x):aa prog 191 [bR x] w λv w'=>v=bN (fE x)/\w'=w:=by
 apply F191_ok;obtain⟨b,c⟩:=h;by_cases a:4611686018427387903<x
 ·simp only[F191,zS,a];exact⟨by rw[fE,bU a],trivial⟩
 ·simp(disch:=omega) only[F191,zS,a,cv_33_3,ap];exact⟨by rw[fE,bV a],trivial⟩
theorem c_PutPin(e:Int):aa prog 192 [bN e] w λv w'=>∃b,v= .tuple #[bR (pinW e),.bool b]/\w'=w:=by
 apply F192_ok;simp only[F192];refine(oG _ _ _ w).step ?_;by_cases h:0<=e/\e<=4611686018427387903
 ·simp(disch:=omega) only[zS,cr h,kX,jB,aj,nr];exact⟨_,by rw[pinW,bU h],trivial⟩
 ·simp only[zS,bZ h];exact⟨_,by rw[pinW,bV h],trivial⟩
theorem c_GetPin{x:Int}(h:sR x):aa prog 224 [bR x] w λv w'=>v= .tuple #[bN (if x%2=0 then 0 else x/2),.bool (decide (x%2≠0))]/\w'=w:=by
 apply F224_ok;obtain⟨b,c⟩:=h;by_cases a:x%2=0
 ·simp(disch:=omega) only[F224,zS,km,tmd,a];exact⟨by simp,trivial⟩
 ·simp(disch:=omega) only[F224,zS,km,kN,tmd,tdv,aW a,cv_33_3,ap,nr];exact⟨by simp[a],trivial⟩
structure gG(c:cx):Prop where
 may:jw c=true
 n1:c.1=(cW c:Int)
 n2:c.2.1=(cC c:Int)
 n3:c.2.2.1=(cK c:Int)
 n4:c.2.2.2.1=(cS c:Int)
 b1:1<=cW c/\cW c<=64
 b2:1<=cC c/\cC c<=4096
 b3:8<=cK c/\cK c<=1024
 b4:1<=cS c/\cS c<=4096
 b5:0<=c.2.2.2.2.1/\c.2.2.2.2.1<=64
 b6:1<=c.2.2.2.2.2/\c.2.2.2.2.2<=8
theorem cfN(h:jw c=true):gG c:=by
 have a:=h;simp only[jw,cZ,decide_eq_true_eq]at h;obtain⟨e,f,g,i,j,b,d⟩:=h;refine⟨a,?_,?_,?_,?_,?_,?_,?_,?_,b,d⟩<;>simp only[cW,cC,cK,cS]<;>omega
theorem c_at1(N:gG c)(a:Int)(b i:Nat)(k:i<b)(l:0<=a/\a<=1000000000)(m:b<=100000):aa prog 132 [.agg (dN c).toArray,bN a,bN b,bN i] w λv w'=>v=bN (a+i)/\ad [] w w':=by
 apply F132_ok;have d:ad [] w (w.alloc (.cells (dN c).toArray 25)):=(ad.refl _ _).alloc _;have e:hp (w.alloc (.cells (dN c).toArray 25)) w.heap.size=some (.cells (dN c).toArray 25):=by rw[af,bU rfl]
 simp only[F132,ak,aq,fM e,ac];generalize w.alloc (.cells (dN c).toArray 25)=w1 at*;refine(c_cfMay c w1).mono ?_;rintro _ w2 ⟨rfl,f⟩;have g:¬((i:Int)<0):=dB;have j:¬((b:Int)<=i):=dB;simp(disch:=omega) only[N.may,zS,g,j,aj,ap];exact⟨by first|rfl|trivial,d.trans f⟩
theorem cfl{b:Nat}(a:hp w b=some (.cells (dN c).toArray 25)):an (hp w b) (0+0)=some (bN c.1)/\an (hp w b) (0+1)=some (bN c.2.1)/\an (hp w b) (0+2)=some (bN c.2.2.1)/\an (hp w b) (0+3)=some (bN c.2.2.2.1):=by
 rw[a];exact⟨rfl,rfl,rfl,rfl⟩
theorem c_Pin1(N:gG c){i:Nat}(d:i<cW c):aa prog 94 [.agg (dN c).toArray,bN i] w λv w'=>v=bN (fH c i)/\ad [] w w':=by
 apply F94_ok;have e:ad [] w (w.alloc (.cells (dN c).toArray 25)):=(ad.refl _ _).alloc _;have a:hp (w.alloc (.cells (dN c).toArray 25)) w.heap.size=some (.cells (dN c).toArray 25):=by rw[af,bU rfl]
 have:=N.b1;obtain⟨b,g,l2,j⟩:=cfl a;rw[N.n1]at b;simp only[F94,ak,aq,fM a,ac,fq,ag,b];refine(c_at1 N 3 (cW c) i d dB dB).mono ?_;rintro _ w2 ⟨rfl,f⟩;exact⟨by rw[fH];push_cast;rfl,e.trans f⟩
theorem lE(N:gG c){i:Nat}(e:i<cS c):aa prog 180 [.agg (dN c).toArray,bN i] w λv w'=>v=bN (iI c i)/\ad [] w w':=by
 apply F180_ok;have f:ad [] w (w.alloc (.cells (dN c).toArray 25)):=(ad.refl _ _).alloc _;have a:hp (w.alloc (.cells (dN c).toArray 25)) w.heap.size=some (.cells (dN c).toArray 25):=by rw[af,bU rfl]
 have:=N.b1;have:=N.b4;obtain⟨b,j,l2,d⟩:=cfl a;rw[N.n1]at b;rw[N.n4]at d;simp(disch:=omega) only[F180,ak,aq,fM a,ac,fq,gj,ag,b,d,aj,ap];refine(c_at1 N (3+cW c) (cS c) i e dB dB).mono ?_;rintro _ w2 ⟨rfl,g⟩;exact⟨by rw[iI];push_cast;rfl,f.trans g⟩
theorem c_Slot1(N:gG c){i:Nat}(e:i<cS c):aa prog 93 [.agg (dN c).toArray,bN i] w λv w'=>v=bN (aSl c i)/\ad [] w w':=by
 apply F93_ok;have f:ad [] w (w.alloc (.cells (dN c).toArray 25)):=(ad.refl _ _).alloc _;have a:hp (w.alloc (.cells (dN c).toArray 25)) w.heap.size=some (.cells (dN c).toArray 25):=by rw[af,bU rfl]
 have:=N.b1;have:=N.b4;obtain⟨b,j,l2,d⟩:=cfl a;rw[N.n1]at b;rw[N.n4]at d;simp(disch:=omega) only[F93,ak,aq,fM a,ac,fq,gj,ag,b,d,aj,ap];refine(c_at1 N (3+cW c+cS c) (cS c) i e dB dB).mono ?_;rintro _ w2 ⟨rfl,g⟩;exact⟨by rw[aSl];push_cast;rfl,f.trans g⟩
theorem c_Link(N:gG c){i:Nat}(f:i<cC c):aa prog 92 [.agg (dN c).toArray,bN i] w λv w'=>v=bN (aLk c i)/\ad [] w w':=by
 apply F92_ok;have g:ad [] w (w.alloc (.cells (dN c).toArray 25)):=(ad.refl _ _).alloc _;have a:hp (w.alloc (.cells (dN c).toArray 25)) w.heap.size=some (.cells (dN c).toArray 25):=by rw[af,bU rfl]
 have:=N.b1;have:=N.b4;have:=N.b2;obtain⟨b,d,l2,e⟩:=cfl a;rw[N.n1]at b;rw[N.n2]at d;rw[N.n4]at e;simp(disch:=omega) only[F92,ak,aq,fM a,ac,fq,jo,gj,ag,b,d,e,aj,jB,ap];refine(c_at1 N (3+cW c+2*cS c) (cC c) i f dB dB).mono ?_;rintro _ w2 ⟨rfl,j⟩;exact⟨by rw[aLk];push_cast;rfl,g.trans j⟩
theorem mul_bd{a b m n:Nat}(c:a<=m)(hb:b<=n):a*b<=m*n:=Nat.mul_le_mul c hb
theorem c_Len1(N:gG c):aa prog 91 [.agg (dN c).toArray] w λv w'=>v=bN (kI c)/\ad [] w w':=by
 apply F91_ok;have i:ad [] w (w.alloc (.cells (dN c).toArray 25)):=(ad.refl _ _).alloc _;have b:hp (w.alloc (.cells (dN c).toArray 25)) w.heap.size=some (.cells (dN c).toArray 25):=by rw[af,bU rfl]
 simp only[F91,ak,aq,fM b,ac];generalize w.alloc (.cells (dN c).toArray 25)=w1 at*;refine(c_cfMay c w1).mono ?_;rintro _ w2 ⟨rfl,d⟩;have:=N.b1;have:=N.b4;have:=N.b2;have:=N.b3;have j:cC c*cK c<=4096*1024:=mul_bd dB dB;have a:((cC c:Int)*(cK c:Int))=((cC c*cK c:Nat):Int):=by push_cast;rfl
 obtain⟨e,f,l2,g⟩:=cfl (d.at b (by simp));rw[N.n1]at e;rw[N.n2]at f;rw[N.n3]at l2;rw[N.n4]at g;simp(disch:=omega) only[N.may,zS,fq,jo,eW,gj,ag,e,f,l2,g,aj,jB,a,ap];exact⟨by rw[kI];push_cast;rfl,i.trans d⟩
theorem c_Word(N:gG c){k i:Nat}(p:k<cC c)(q:i<cK c):aa prog 189 [.agg (dN c).toArray,bN k,bN i] w λv w'=>v=bN (aWd c k i)/\ad [] w w':=by
 apply F189_ok;have j:ad [] w (w.alloc (.cells (dN c).toArray 25)):=(ad.refl _ _).alloc _;have b:hp (w.alloc (.cells (dN c).toArray 25)) w.heap.size=some (.cells (dN c).toArray 25):=by rw[af,bU rfl]
 simp only[F189,ak,aq,fM b,ac];generalize w.alloc (.cells (dN c).toArray 25)=w1 at*;refine(c_cfMay c w1).mono ?_;rintro _ w2 ⟨rfl,d⟩;have:=N.b1;have:=N.b4;have:=N.b2;have:=N.b3;have r:k*cK c<=4096*1024:=mul_bd dB dB;have a:((k:Int)*(cK c:Int))=((k*cK c:Nat):Int):=by push_cast;rfl
 obtain⟨e,f,l2,g⟩:=cfl (d.at b (by simp));rw[N.n1]at e;rw[N.n2]at f;rw[N.n3]at l2;rw[N.n4]at g;have l:¬((k:Int)<0):=dB;have m:¬((cC c:Int)<=k):=dB;have n:¬((i:Int)<0):=dB;have o:¬((cK c:Int)<=i):=dB;simp(disch:=omega) only[N.may,zS,l,m,n,o,fq,jo,eW,gj,ag,e,f,l2,g,aj,jB,a,ap];exact⟨by rw[aWd];push_cast;rfl,j.trans d⟩
end
structure Hm where
 wb:Nat
 pb:Nat
 sb:Nat
 eb:Nat
 mb:Nat
def ptr(b:Nat):Value:=bS b
def og(a:Nat)(s:iF):List Value:= [ptr a,bN s.head,bN s.dV,bN s.n]
def homeL(h:Hm)(c:cx):List Value:=dN c++ [ptr h.mb,ptr h.pb,ptr h.sb,ptr h.eb]
def epL(h:Hm)(c:cx):List Value:= [ptr h.mb,bN 2,bN (fH c 0),bN (cW c)]
def memN(m:bd)(n:Int):Nod:= .st 0 204 [.gr 33 1 m.length (fZ m),.v (bN n)]
structure dG(T:dH)(h:Hm)(c:cx)(m:bd):Prop where
 wT:T h.wb=some (.st 0 153 ((homeL h c).map fF.v))
 pT:T h.pb=some (.st 0 156 ((og h.mb (bB c)).map fF.v))
 sT:T h.sb=some (.st 0 156 ((og h.mb (dF c)).map fF.v))
 eT:T h.eb=some (.st 0 158 ((epL h c).map fF.v))
 mT:∃n,T h.mb=some (memN m n)
def DM(T:dH)(h:Hm)(k:Nat):Prop:=k=h.mb\/T k=some (.own h.mb 0)
section
variable{w w':World}{T T':dH}{h:Hm}{c:cx}{m m':bd}{S:Nat->Prop}
theorem dG.turn(H:dG T h c m)(a:∀k d,T k=some d->k≠h.mb->T' k=some d)(e:∃n,T' h.mb=some (memN m' n)):dG T' h c m':=by
 obtain⟨n,b⟩:=H.mT;exact⟨a _ _ H.wT (ay H.wT b dC),a _ _ H.pT (ay H.pT b dC),a _ _ H.sT (ay H.sT b dC),a _ _ H.eT (ay H.eT b dC),e⟩
theorem dG.gx(H:dG T h c m)(g:Gx S w T w' T')(d:∀k a,T k=some a->S k->∃o e cs,a= .st o e cs/\o≠0):dG T' h c m:=by
 obtain⟨n,f⟩:=H.mT;have no:∀{k e cs},T k=some (.st 0 e cs)->T' k=some (.st 0 e cs):=fun{k e cs} b=>g.off k _ b λi=>by
  obtain⟨o,e',cs',j,l⟩:=d k _ b i;cases j;exact l rfl
 exact⟨no H.wT,no H.pT,no H.sT,no H.eT,n,no f⟩
theorem dG.mem(R:Rel w T)(H:dG T h c m)(r:0<m.length):∃g k n,T h.mb=some (memN m n)/\hp w h.mb=some (.cells #[.slice (some ⟨g,0,none⟩) m.length k,bN n] 204)/\g≠h.mb/\T g=some (.own h.mb 0)/\
  w.ownsRow 0 33 1 (.slice (some ⟨g,0,none⟩) m.length k) m.length (fZ m)/\mP w T h.mb 204 [.gr 33 1 m.length (fZ m),.v (bN n)] [.slice (some ⟨g,0,none⟩) m.length k,bN n]/\
  ∀a:Nat,a<m.length->ai prog (Instr.indexAt 139 (.slice (some ⟨g,0,none⟩) m.length k) (bN a))=some (.pointer (some ⟨g,a,none⟩))/\an (hp w g) a=some (bR (cf m a)):=by
 obtain⟨n,d⟩:=H.mT;obtain⟨vs,N⟩:=R.node _ _ _ _ d;match vs,N.len,N with
 | [v0,v1],_,N=>
  have b:=N.each 0 _ v0 rfl rfl;have o:v1=bN n:=N.each 1 _ v1 rfl rfl;subst o;obtain⟨g,k,rfl,hb,_,_,_,_⟩:=kQ (P:=prog) (t:=139) (j:= .i64) (i:=0) b.1 Tryz.underlying139 sz_33 dB dB;have f:=b.2 g rfl;refine⟨g,k,n,d,N.hb,lD d f,f,b.1,N,λa p=>?_⟩;obtain⟨s,u,e,_,l,q,_,_⟩:=kQ (P:=prog) (t:=139) (j:= .i64) (i:=(a:Int)) b.1 Tryz.underlying139 sz_33 dB dB;cases e;rw[cj,dr]at l;refine⟨l,?_⟩;have:=q 0 dB;rw[cj,dr,Nat.add_zero]at this;rw[this,fZ,cN,cf,cu,bX p];rfl
def mA(g n k:Nat)(x:Int):Array Value:= #[.slice (some ⟨g,0,none⟩) n k,bN x]
theorem mA_1{g n k:Nat}{x y:Int}:(mA g n k x).setIfInBounds (0+1) (bN y)=mA g n k y:=rfl
theorem dG.count(R:Rel w T)(H:dG T h c m){g k:Nat}{n:Int}(d:T h.mb=some (memN m n))(N:mP w T h.mb 204 [.gr 33 1 m.length (fZ m),.v (bN n)] [.slice (some ⟨g,0,none⟩) m.length k,bN n])(y:Int):
  Gx (λk=>k=h.mb) w T (put w h.mb (mA g m.length k y) 204) (ig T h.mb (memN m y))/\dG (ig T h.mb (memN m y)) h c m:=
 ⟨Gx.put (vs':= [.slice (some ⟨g,0,none⟩) m.length k,bN y]) R d rfl λj f v a b=>by
  have e:=(bY.1 a).1;have:j=0\/j=1:=by simp at e;omega
  rcases this with rfl|rfl
  ·cases a;cases b;exact N.each 0 _ _ rfl rfl
  ·cases a;cases b;rfl,H.turn (λk i a b=>by rw[aC b];exact a) ⟨y,ax⟩⟩
theorem okM{g n k:Nat}{x:Int}{e:TypeId}{b:Nat}(hb:hp w b=some (.cells (mA g n k x) e)):pY (hp w b) (0+1+1)=true:=by rw[hb,bq];exact cr (by show 0+1+1<=2;omega)
theorem iR(R:Rel w T)(H:dG T h c m){a:Nat}(e:a<m.length):aa prog 179 [ptr h.mb,bN a] w λv w'=>v=bR (cf m a)/\bl (λk=>k=h.mb) w w'/\∃T',Gx (λk=>k=h.mb) w T w' T'/\dG T' h c m:=by
 apply F179_ok;obtain⟨g,k,n,f,hb,i,_,s,N,b⟩:=H.mem R dB;obtain⟨j,l⟩:=b a e;have hb:hp w h.mb=some (.cells (mA g m.length k n) 204):=hb;have f1:an (hp w h.mb) (0+1)=some (bN n):=by rw[hb];rfl
 simp only[F179,ptr,ae,ac,fa_204_1,ag,f1,aj];rw[gB rfl rfl (okM hb),hb,aB,au,mA_1];obtain⟨o,p⟩:=H.count R f N (IntKind.i64.wrap (n+1));have q:=bl.put w h.mb (mA g m.length k (IntKind.i64.wrap (n+1))) 204;have r:an (hp (put w h.mb (mA g m.length k (IntKind.i64.wrap (n+1))) 204) h.mb) (0+0)=some (.slice (some ⟨g,0,none⟩) m.length k):=by rw[ar (aD hb)];rfl
 have d:an (hp (put w h.mb (mA g m.length k (IntKind.i64.wrap (n+1))) 204) g) a=some (bR (cf m a)):=by rw[bj i];exact l
 simp only[jO,jC,br,r,j,d,ac];exact⟨by first|rfl|trivial,q,_,o,p⟩
theorem u64s_set(m:bd)(a:Nat)(b:a<m.length)(v:Int):(fZ m).take a++ [bR v]++(fZ m).drop (a+ [Value.int .u64 v].length)=fZ (m.set a v):=by
 rw[show [Value.int .u64 v].length=1 from rfl,set_eq _ _ _ (by simpa [fZ]using b),fZ,fZ,List.map_set]
theorem ne_loc'{b k:Nat}{c:Nod}(h:T b=some c)(a:T k=none):k≠b:=λe=>by rw[e,h]at a;cases a
theorem dG.setD(R:Rel w T)(H:dG T h c m){g k:Nat}{n:Int}(f:T h.mb=some (memN m n))(N:mP w T h.mb 204 [.gr 33 1 m.length (fZ m),.v (bN n)] [.slice (some ⟨g,0,none⟩) m.length k,bN n]){a:Nat}(j:a<m.length)(v:Int):
  pY (hp w g) (a+1)=true/\∃T',Gx (λk=>k=h.mb) w T (put w g ((dL (hp w g)).setIfInBounds a (bR v)) (dM (hp w g))) T'/\dG T' h c (m.set a v)/\∀q,q≠h.mb->T' q=T q:=by
 obtain⟨b,d,e⟩:=Gx.rowset (xs:= [bR v]) R f N (k:=0) (v:= .slice (some ⟨g,0,none⟩) m.length k) (e':=33) (z:=1) (n:=m.length) (us:=fZ m) rfl rfl (p:=g) (i:=a) rfl (by simp;omega);rw[u64s_set m a j v]at e;refine⟨b,_,e,H.turn (λk o b d=>by rw[aC d];exact b) ⟨n,?_⟩,λq l=>aC l⟩;rw[ax,memN,cE];rfl
theorem dG.set(R:Rel w T)(H:dG T h c m){g k:Nat}{n:Int}(b:T h.mb=some (memN m n))(N:mP w T h.mb 204 [.gr 33 1 m.length (fZ m),.v (bN n)] [.slice (some ⟨g,0,none⟩) m.length k,bN n]){a:Nat}(d:a<m.length)(v:Int):
  pY (hp w g) (a+1)=true/\∃T',Gx (λk=>k=h.mb) w T (put w g ((dL (hp w g)).setIfInBounds a (bR v)) (dM (hp w g))) T'/\dG T' h c (m.set a v):=by
 obtain⟨e,T',f,i,_⟩:=H.setD R b N d v;exact⟨e,T',f,i⟩
theorem oM(R:Rel w T)(H:dG T h c m){a:Nat}(j:a<m.length)(v:Int):aa prog 182 [ptr h.mb,bN a,bR v] w λu w'=>bl (DM T h) w w'/\∃T',Gx (λk=>k=h.mb) w T w' T'/\dG T' h c (m.set a v):=by
 apply F182_ok;obtain⟨g,k,n,p,hb,z,hT,A,N,d⟩:=H.mem R dB;obtain⟨q,B⟩:=d a j;have hb:hp w h.mb=some (.cells (mA g m.length k n) 204):=hb;have f1:an (hp w h.mb) (0+1)=some (bN n):=by rw[hb];rfl
 simp only[F182,ptr,ae,ac,fa_204_1,ag,f1,aj];rw[gB rfl rfl (okM hb),hb,aB,au,mA_1];obtain⟨e,l⟩:=H.count R p N (IntKind.i64.wrap (n+1));have r:=bl.put w h.mb (mA g m.length k (IntKind.i64.wrap (n+1))) 204;have s:an (hp (put w h.mb (mA g m.length k (IntKind.i64.wrap (n+1))) 204) h.mb) (0+0)=some (.slice (some ⟨g,0,none⟩) m.length k):=by rw[ar (aD hb)];rfl
 obtain⟨C,k2,D,f,b,_,t,_,x,_⟩:=l.mem e.rel dB;rw[ar (aD hb)]at b;cases b;obtain⟨ok,T',y,H3⟩:=l.set e.rel f x j v;simp only[jO,jC,s,q,ac];rw[nG (o:=a) rfl rfl ok];refine⟨(r.mono λk i=> .inl i).sq ((bl.put _ _ _ _).mono λk i=> .inr (by rw[i];exact hT)),T',e.trans y,H3⟩
theorem c_CasD(R:Rel w T)(H:dG T h c m){a:Nat}(t:a<m.length)(old v:Int):aa prog 184 [ptr h.mb,bN a,bR old,bR v] w λu w'=>u= .bool (decide (cf m a=old))/\bl (DM T h) w w'/\∃T',Gx (λk=>k=h.mb) w T w' T'/\dG T' h c (if cf m a=old then m.set a v else m)/\∀k,T k=none->T' k=none:=by
 apply F184_ok;obtain⟨g,k,n,i,hb,A,hT,F,N,l⟩:=H.mem R dB;obtain⟨x,B⟩:=l a t;have hb:hp w h.mb=some (.cells (mA g m.length k n) 204):=hb;have f1:an (hp w h.mb) (0+1)=some (bN n):=by rw[hb];rfl
 simp only[F184,ptr,ae,ac,fa_204_1,ag,f1,aj];rw[gB rfl rfl (okM hb),hb,aB,au,mA_1];obtain⟨j,p⟩:=H.count R i N (IntKind.i64.wrap (n+1));have y:=bl.put w h.mb (mA g m.length k (IntKind.i64.wrap (n+1))) 204;have z:an (hp (put w h.mb (mA g m.length k (IntKind.i64.wrap (n+1))) 204) h.mb) (0+0)=some (.slice (some ⟨g,0,none⟩) m.length k):=by rw[ar (aD hb)];rfl
 have e:an (hp (put w h.mb (mA g m.length k (IntKind.i64.wrap (n+1))) 204) g) a=some (bR (cf m a)):=by rw[bj A];exact B
 obtain⟨G,k2,I,q,f,_,C,_,D,_⟩:=p.mem j.rel dB;rw[ar (aD hb)]at f;cases f;by_cases d:cf m a=old
 ·obtain⟨ok,T',E,H3,r⟩:=p.setD j.rel q D t v;have s:(cf m a !=old)=false:=by rw[d];simp
  simp only[jO,jC,br,z,x,e,zS,s];rw[nG (o:=a) rfl rfl ok];exact⟨by rw[cr d],(y.mono λk b=> .inl b).sq ((bl.put _ _ _ _).mono λk b=> .inr (by rw[b];exact hT)),T',j.trans E,by rw[bU d];exact H3,λk b=>by rw[r k (ne_loc' i b),aC (ne_loc' i b)];exact b⟩
 ·have s:(cf m a !=old)=true:=bne_iff_ne.2 d;simp only[jO,jC,br,z,x,e,zS,s];exact⟨by rw[bZ d],y.mono λk b=> .inl b,_,j,by rw[bV d];exact p,λk b=>by rw[aC (ne_loc' i b)];exact b⟩
theorem c_Cas(R:Rel w T)(H:dG T h c m){a:Nat}(b:a<m.length)(old v:Int):aa prog 184 [ptr h.mb,bN a,bR old,bR v] w λu w'=>u= .bool (decide (cf m a=old))/\bl (DM T h) w w'/\∃T',Gx (λk=>k=h.mb) w T w' T'/\dG T' h c (if cf m a=old then m.set a v else m):=
 (c_CasD R H b old v).mono λ_ _ ⟨e,d,T',g,f,_⟩=>⟨e,d,T',g,f⟩
theorem c_Add(R:Rel w T)(H:dG T h c m){a:Nat}(l:a<m.length)(v:Int):aa prog 204 [ptr h.mb,bN a,bR v] w λu w'=>u=bR (cf m a)/\bl (DM T h) w w'/\∃T',Gx (λk=>k=h.mb) w T w' T'/\dG T' h c (m.set a (IntKind.u64.wrap (cf m a+v))):=by
 apply F204_ok;obtain⟨g,k,n,q,hb,r,hT,C,N,d⟩:=H.mem R dB;obtain⟨s,t⟩:=d a l;have hb:hp w h.mb=some (.cells (mA g m.length k n) 204):=hb;have f1:an (hp w h.mb) (0+1)=some (bN n):=by rw[hb];rfl
 simp only[F204,ptr,ae,ac,fa_204_1,ag,f1,aj];rw[gB rfl rfl (okM hb),hb,aB,au,mA_1];obtain⟨e,p⟩:=H.count R q N (IntKind.i64.wrap (n+1));have x:=bl.put w h.mb (mA g m.length k (IntKind.i64.wrap (n+1))) 204;have y:an (hp (put w h.mb (mA g m.length k (IntKind.i64.wrap (n+1))) 204) h.mb) (0+0)=some (.slice (some ⟨g,0,none⟩) m.length k):=by rw[ar (aD hb)];rfl
 have f:an (hp (put w h.mb (mA g m.length k (IntKind.i64.wrap (n+1))) 204) g) a=some (bR (cf m a)):=by rw[bj r];exact t
 obtain⟨D,k2,E,i,b,_,z,_,A,_⟩:=p.mem e.rel dB;rw[ar (aD hb)]at b;cases b;obtain⟨ok,T',B,H3⟩:=p.set e.rel i A l (IntKind.u64.wrap (cf m a+v));simp only[jO,jC,br,y,s,f,zS,aj];rw[nG (o:=a) rfl rfl ok];exact⟨by first|rfl|trivial,(x.mono λk j=> .inl j).sq ((bl.put _ _ _ _).mono λk j=> .inr (by rw[j];exact hT)),T',e.trans B,H3⟩
theorem stk_f{b a:Nat}{s:iF}(R:Rel w T)(hT:T b=some (.st 0 156 ((og a s).map fF.v))):an (hp w b) (0+0)=some (ptr a)/\an (hp w b) (0+1)=some (bN s.head)/\an (hp w b) (0+2)=some (bN s.dV)/\an (hp w b) (0+3)=some (bN s.n):=by
 rw[R.kK hT];exact⟨rfl,rfl,rfl,rfl⟩
theorem c_Top{b g:Nat}{s:iF}(R:Rel w T)(hT:T b=some (.st 0 156 ((og g s).map fF.v))){x:Int}(i:sR x):aa prog 212 [ptr b,bR x] w λv w'=>v=bN (pQ s x)/\ad [] w w':=by
 apply F212_ok;simp only[F212];refine(c_GetHead i).mono ?_;rintro _ w1 ⟨rfl,d⟩;obtain⟨_,_,_,e⟩:=stk_f (R.aF d) hT;have f:ai prog (Instr.field 209 (.agg (hdA (hdI x) (hdG x))) 0)=some (bN (hdI x)):=pr_field1 (c:=hdA (hdI x) (hdG x)) (off:=0) (z:=1) dE rfl;by_cases a:(s.n:Int)<=hdI x
 ·simp only[f,ptr,ae,ph,ag,e,zS,a];exact⟨by rw[pQ,bU a],d⟩
 ·simp only[f,ptr,ae,ph,ag,e,zS,a];exact⟨by rw[pQ,bV a],d⟩
theorem c_Below{b d:Nat}{s:iF}(R:Rel w T)(hT:T b=some (.st 0 156 ((og d s).map fF.v)))(f:s.n<=1000000){x:Int}(e:sR x):aa prog 213 [ptr b,bR x] w λv w'=>v=bN (gC s x)/\w'=w:=by
 apply F213_ok;obtain⟨_,_,_,c⟩:=stk_f R hT;obtain⟨g,i⟩:=e;by_cases a:(s.n:Int)<x
 ·simp(disch:=omega) only[F213,ptr,ae,ph,ag,c,zS,kX,nr,a];exact⟨by rw[gC,bU a],trivial⟩
 ·simp(disch:=omega) only[F213,ptr,ae,ph,ag,c,zS,kX,cv_33_3,nr,ap,aH,a];exact⟨by rw[gC,bV a],trivial⟩
end
def mU(m:bd):Prop:=∀x∈m,sR x
theorem iw{m:bd}(h:mU m)(a:Nat):sR (cf m a):=by
 rw[cf,cu];cases b:m[a]? with
 |none=>simp only[Option.getD_none];omega
 |some x=>exact h x (cD b)
theorem mU_set{m:bd}(h:mU m)(a:Nat){v:Int}(b:sR v):mU (m.set a v):=λx c=>by
 rcases List.mem_or_eq_of_mem_set c with h1|h1
 ·exact h x h1
 ·rw[h1];exact b
structure StkOk(s:iF)(m:bd):Prop where
 hd:s.head<m.length
 lk:s.dV+s.n<=m.length
 n:s.n<=100000
 ml:m.length<=100000000
 u:mU m
def s7(s:iF)(l:List Int):Prop:=∀x∈l,0<=x/\x<s.n
theorem s7.at{s:iF}{l:List Int}(h:s7 s l){i:Nat}(a:i<l.length):∃y,l[i]? =some y/\l.getD i 0=y/\0<=y/\y<s.n:=⟨l[i],bX a,by rw[cu,bX a];rfl,h _ (List.getElem_mem a)⟩
section
variable{w w':World}{T T':dH}{h:Hm}{c:cx}{m m':bd}{o b sb:Nat}{s:iF}
theorem Ev.Lo.int{A:Option Addr}{l:List Int}(L:Lo w T A (ints l)){i:Nat}{y:Int}(a:l[i]? =some y)(k:Nat):∃q f,ai prog (Instr.indexAt 22 (.slice A l.length k) (bN i))=some (.pointer (some ⟨q,f,none⟩))/\an (hp w q) f=some (bN y)/\T q=none:=by
 have b:=(bY.1 a).1;obtain⟨q,f,d,g,p,hp,m⟩:=L.rd.elem1 (P:=prog) (c:=k) (n:=l.length) (i:=(i:Int)) (j:= .i64) underlying22 aE (by simp[ints]) dB dB;refine⟨q,f,d,?_,by rw[m];exact L.off p hp (by intro e;rw[ints,List.map_eq_nil_iff]at e;rw[e]at b;simp at b)⟩;rw[g,cj,ints,cN,a];rfl
theorem dn{e:TypeId}{cs:List fF}(H:dG T h c m)(hT:T b=some (.st o e cs))(a:b≠h.mb):DM T h b=False:=by
 simp only[DM,eq_iff_iff,iff_false,not_or];exact⟨a,λd=>by rw[hT]at d;cases d⟩
theorem dl(H:dG T h c m)(hT:T b=none):DM T h b=False:=by
 simp only[DM,eq_iff_iff,iff_false,not_or];obtain⟨n,d⟩:=H.mT;exact⟨λa=>(by rw[a,d]at hT;cases hT),λa=>(by rw[hT]at a;cases a)⟩
theorem pS{D:Nat->Prop}{f:Nat}{p:Prop}:rdD D (.pointer (some ⟨b,f,none⟩)) p=(¬ D b/\p):=rfl
theorem bG{D:Nat->Prop}(b:ad [] w w'):ExtD D w w':=λa v _ c=>Below.cellKeep b.below c
theorem lF{D:Nat->Prop}(c:bl D w w'):ExtD D w w':=λa v d b=>by
 have hb:w'.heap[a.block]? =w.heap[a.block]? :=c.block a.block (qk b) d;unfold World.cell? at b⊢;rw[hb];exact b
theorem dG.bP{e:TypeId}{cs:List fF}(H:dG T h c m)(g:Gx (λk=>k=b) w T w' T')(hT:T b=some (.st o e cs))(d:o≠0):dG T' h c m:=
 H.gx g λk i a f=>by rw[f,hT]at a;cases a;exact⟨_,_,_,rfl,d⟩
theorem dG.s8{e:TypeId}{cs:List fF}(H:dG T h c m)(hT:T b=some (.st o e cs))(a:o≠0):b≠h.mb:=by
 obtain⟨n,d⟩:=H.mT;exact tQ hT d a
def puA(sb:Nat)(A:Option Addr)(k n:Nat)(at' old:Int)(done:Bool):Array Value:= #[ptr sb,.slice A n k,bN at',bR old,.bool done]
def puN(o sb:Nat)(A:Option Addr)(k:Nat)(p:PuV):Nod:= .st o 293 ((puA sb A k p.l.length p.at' p.old p.done).toList.map fF.v)
def PuR(w:World)(T:dH)(o b sb:Nat)(p:PuV):Prop:=∃A k,T b=some (puN o sb A k p)/\Lo w T A (ints p.l)
theorem puA_2{A:Option Addr}{k n:Nat}{at' old x:Int}{done:Bool}:(puA sb A k n at' old done).setIfInBounds (0+2) (bN x)=puA sb A k n x old done:=rfl
theorem puA_3{A:Option Addr}{k n:Nat}{at' old x:Int}{done:Bool}:(puA sb A k n at' old done).setIfInBounds (0+3) (bR x)=puA sb A k n at' x done:=rfl
theorem puA_4{A:Option Addr}{k n:Nat}{at' old:Int}{done x:Bool}:(puA sb A k n at' old done).setIfInBounds (0+4) (.bool x)=puA sb A k n at' old x:=rfl
theorem PuR.gx{S:Nat->Prop}{p:PuV}(P:PuR w T o b sb p)(g:Gx S w T w' T')(a:¬S b):PuR w' T' o b sb p:=by
 obtain⟨A,k,hT,L⟩:=P;exact⟨A,k,g.off b _ hT a,L.gx g⟩
theorem PuR.aF{p:PuV}(P:PuR w T o b sb p)(a:ad [] w w'):PuR w' T o b sb p:=by
 obtain⟨A,k,hT,L⟩:=P;exact⟨A,k,hT,L.aF a⟩
theorem pu_f{A:Option Addr}{k:Nat}{p:PuV}(R:Rel w T)(hT:T b=some (puN o sb A k p)):hp w b=some (.cells (puA sb A k p.l.length p.at' p.old p.done) 293)/\
  an (hp w b) (0+0)=some (ptr sb)/\an (hp w b) (0+1)=some (.slice A p.l.length k)/\an (hp w b) (0+2)=some (bN p.at')/\an (hp w b) (0+3)=some (bR p.old)/\an (hp w b) (0+4)=some (.bool p.done):=by
 have hb:hp w b=some (.cells (puA sb A k p.l.length p.at' p.old p.done) 293):=R.kK hT;rw[hb];exact⟨rfl,rfl,rfl,rfl,rfl,rfl⟩
theorem pu_put{A:Option Addr}{k:Nat}{p:PuV}(R:Rel w T)(hT:T b=some (puN o sb A k p))(p':PuV)(a:p'.l=p.l)(L:Lo w T A (ints p.l)):
  ∃T',Gx (λq=>q=b) w T (put w b (puA sb A k p.l.length p'.at' p'.old p'.done) 293) T'/\PuR (put w b (puA sb A k p.l.length p'.at' p'.old p'.done) 293) T' o b sb p':=by
 have g:=Gx.putv R hT (puA sb A k p.l.length p'.at' p'.old p'.done).toList;refine⟨_,g,A,k,?_,?_⟩
 ·rw[ax,puN,a]
 ·rw[a];exact L.gx g
theorem pu_ok{A:Option Addr}{k n j:Nat}{at' old:Int}{done:Bool}{e:TypeId}(hb:hp w b=some (.cells (puA sb A k n at' old done) e))(a:j<5):pY (hp w b) (0+j+1)=true:=by
 rw[hb,bq];exact cr (by show 0+j+1<=5;omega)
theorem c_Push{A:Option Addr}{k:Nat}{l:List Int}(R:Rel w T)(L:Lo w T A (ints l))(B:l.length<=100000)(o:Nat):aa prog 220 [ptr sb,.slice A l.length k] w λv w'=>∃b T',v=ptr b/\w.heap.size<=b/\ad [] w w'/\Gx (λ_=>False) w T w' T'/\PuR w' T' o b sb (puNew l):=by
 apply F220_ok;obtain⟨i,f,j,m,hb⟩:=oC;simp only[F220,aQ,zS];refine cp_flat (z:=bN 0) underlying22 f j m rfl dB (by simp[ints]) L.rd (λu n=>?_) dB dB λv w1 q r a=>?_
 ·obtain⟨y,_,rfl⟩:=List.mem_map.1 n;exact⟨_,_,rfl⟩
 obtain⟨A',c,rfl,s⟩:=flat_src ⟨_,q⟩;have d:ai prog (Instr.build 293 #[(0,ptr sb),(1,.slice A' l.length c),(4,.bool (((l.length:Nat):Int)==0))])=some (.agg (puA sb A' c l.length 0 0 (((l.length:Nat):Int)==0))):=bd_293_0_1_4;simp only[d,ak,aq,ac];have t:=R.aF a;have g:=Gx.pR (S:=λ_=>False) t o 293 (puA sb A' c l.length 0 0 (((l.length:Nat):Int)==0)).toList;have x:=a.size;refine⟨w1.heap.size,_,rfl,x,a.alloc _,(Gx.bL R a).trans g,A',c,?_,?_⟩
 ·rw[ax,puN,puNew];have:(((l.length:Nat):Int)==0)=decide (l.length=0):=by
   by_cases e:l.length=0
   ·rw[e];rfl
   ·rw[aW dB,bZ e]
  rw[this];rfl
 ·exact(Lo.new R s λp hp=>r p.block (by rw[hp];rfl)).gx g
structure s9(s:iF)(p:PuV):Prop where
 l:s7 s p.l
 n:p.l.length<=100000
 u:sR p.old
 nd:p.done=false->1<=p.l.length/\p.at'<=p.l.length+1
theorem c_PuStep(R:Rel w T)(H:dG T h c m)(ho:o≠0)(Y:T sb=some (.st 0 156 ((og h.mb s).map fF.v)))(K:StkOk s m){p:PuV}(P:PuR w T o b sb p)(O:s9 s p):
  aa prog 199 [ptr b] w λv w'=>∃T',Gx (λk=>k=h.mb\/k=b) w T w' T'/\dG T' h c (eQ s m p).1/\PuR w' T' o b sb (eQ s m p).2:=by
 apply F199_ok (D:=DM T h);obtain⟨A,k,hT,L⟩:=P;have M:=H.s8 hT ho;obtain⟨hb,f0,f1,f2,f3,Q⟩:=pu_f R hT;obtain⟨s0,s1,s2,s3⟩:=stk_f R Y;have hd:∀{w1:World} {j:Nat},hp w1.drew j=hp w1 j:=rfl;have hn:=O.n;have Kh:=K.hd;have Kl:=K.lk;have Kn:=K.n;have Km:=K.ml;have Z:sb≠h.mb:=by obtain⟨n,hn⟩:=H.mT;exact ay Y hn dC
 have fin:∀(w1:World) (T1:dH) (m1:bd) (p':PuV),Gx (λk=>k=h.mb) w T w1 T1->dG T1 h c m1->p'.l=p.l->T1 b=some (puN o sb A k p)/\hp w1 b=some (.cells (puA sb A k p.l.length p.at' p.old p.done) 293)/\
   ∃T',Gx (λk=>k=h.mb\/k=b) w T (put w1 b (puA sb A k p.l.length p'.at' p'.old p'.done) 293) T'/\dG T' h c m1/\PuR (put w1 b (puA sb A k p.l.length p'.at' p'.old p'.done) 293) T' o b sb p':=by
  intro w1 T1 m1 p' e I hl;have r:=e.off b _ hT M;obtain⟨T',x,C⟩:=pu_put e.rel r p' hl (L.gx e);exact⟨r,(pu_f e.rel r).1,T',(e.mono λ_ h=> .inl h).trans (x.mono λ_ h=> .inr h),I.bP x r ho,C⟩
 have Rd:=R.aF (ad.refl [] w).drew;have E:=Rd.aF (ad.refl [] w.drew).drew;cases g:p.done with
 |true=>
  rw[g]at Q;simp only[F199,ptr,ae,mH,az,Q,zS];rw[eQ,bU g];exact⟨T,Gx.refl R,H,A,k,hT,L⟩
 |false=>
 rw[g]at Q;obtain⟨n1,n2⟩:=O.nd g;have t:eQ s m p=if p.at'+1<p.l.length then(m.set (s.dV+(p.l.getD p.at' 0).toNat) (p.l.getD (p.at'+1) 0+1),{p with at':=p.at'+1})
  else if p.at'+1=p.l.length then(m,{p with old:=cf m s.head,at':=p.at'+1})
  else if p.at'=p.l.length then(m.set (s.dV+(p.l.getD (p.l.length-1) 0).toNat) (pQ s p.old+1),{p with at':=p.at'+1})
  else if cf m s.head=p.old then(m.set s.head (r5 p.old (p.l.getD 0 0)),{p with done:=true,at':=p.l.length-1})
  else(m,{p with done:=false,at':=p.l.length-1}):=by rw[eQ,bV (by rw[g];simp)]
 have e1:((p.at':Int)+1)=((p.at'+1:Nat):Int):=dB;have e2:((p.l.length:Int)-1)=((p.l.length-1:Nat):Int):=dB;by_cases c1:p.at'+1<p.l.length
 ·rw[bU c1]at t;obtain⟨y,hy,F,y0,y1⟩:=O.l.at (i:=p.at') dB;obtain⟨z,hz,a7,z0,z1⟩:=O.l.at (i:=p.at'+1) c1;obtain⟨q,f,U,lq,_⟩:=L.int hy k;obtain⟨q',f',a8,a9,_⟩:=L.int hz k;have lt:(p.at':Int)<((p.l.length-1:Nat):Int):=dB;have ea:(s.dV:Int)+y=((s.dV+y.toNat:Nat):Int):=dB;simp(disch:=omega) only[F199,ptr,ae,mH,fa_293_0,fa_293_1,rH,kU,fa_156_2,az,lU,bx,aK,ag,hd,f0,f1,f2,Q,s0,s2,aQ,aH,aj,e1,e2,ap,nr,lt,zS,U,lq,a8,a9,kX,ea];refine(oM E H (a:=s.dV+y.toNat) dB (z+1)).mono ?_;rintro _ w1 ⟨_,T1,e,I⟩;have e:=(Gx.bL (S:=λk=>k=h.mb) R (ad.refl [] w).drew.drew).trans e;obtain⟨r,d,T',x,G,C⟩:=fin w1 T1 _ {p with at':=p.at'+1} e I rfl;obtain⟨_,_,_,h2,_,_⟩:=pu_f e.rel r;simp(disch:=omega) only[h2,zS,aj,e1,ap];rw[gB (o:=0+2) rfl rfl (pu_ok d dB),d,aB,au,puA_2];apply L199_0_ok;rw[t,F,a7];exact⟨T',x,G,C⟩
 rw[bV c1]at t;have V:¬(p.at':Int)<((p.l.length-1:Nat):Int):=dB;by_cases c2:p.at'+1=p.l.length
 ·rw[bU c2]at t;have J:((p.at':Int)==((p.l.length-1:Nat):Int))=true:=by rw[beq_iff_eq];omega
  simp(disch:=omega) only[F199,ptr,ae,mH,fa_293_0,fa_293_1,rH,kU,ry,az,lU,bx,aK,ag,hd,f0,f1,f2,Q,s0,s1,aQ,aH,e2,ap,V,J,zS];refine(iR E H (a:=s.head) Kh).mono ?_;rintro _ w1 ⟨rfl,_,T1,e,I⟩;have e:=(Gx.bL (S:=λk=>k=h.mb) R (ad.refl [] w).drew.drew).trans e;obtain⟨r,d,T',x,G,C⟩:=fin w1 T1 _ {p with old:=cf m s.head,at':=p.at'+1} e I rfl;simp only[fa_293_3,ac];rw[nG (o:=0+3) rfl rfl (pu_ok d dB),d,aB,au,puA_3];have B:hp (put w1 b (puA sb A k p.l.length p.at' (cf m s.head) p.done) 293) b=some (.cells (puA sb A k p.l.length p.at' (cf m s.head) p.done) 293):=ar (aD d) _ _;have h2:an (hp (put w1 b (puA sb A k p.l.length p.at' (cf m s.head) p.done) 293) b) (0+2)=some (bN p.at'):=by rw[B];rfl
  simp(disch:=omega) only[h2,zS,aj,e1,ap];rw[gB (o:=0+2) rfl rfl (pu_ok B dB),B,aB,au,puA_2,m6];apply L199_0_ok;rw[t];exact⟨T',x,G,C⟩
 rw[bV c2]at t;have J:((p.at':Int)==((p.l.length-1:Nat):Int))=false:=aW dB;by_cases c3:p.at'=p.l.length
 ·rw[bU c3]at t;have W:((p.at':Int)==(p.l.length:Int))=true:=by rw[beq_iff_eq];omega
  obtain⟨y,hy,F,y0,y1⟩:=O.l.at (i:=p.l.length-1) dB;obtain⟨q,f,U,lq,tq⟩:=L.int hy k;have ea:(s.dV:Int)+y=((s.dV+y.toNat:Nat):Int):=dB;have d1:=dn H hT M;have d2:=dn H Y Z;have d3:=dl H tq;simp(disch:=omega) only[F199,ptr,ae,mH,fa_293_0,fa_293_1,rH,fa_293_3,kU,fa_156_2,az,lU,bx,aK,ag,br,hd,f0,f1,f2,f3,Q,s0,s2,aQ,aH,aj,e2,ap,V,J,W,zS,U,lq,ea,pS,d1,d2,d3,not_false_eq_true,true_and];refine(c_Top E Y O.u).mono ?_;rintro _ w1 ⟨rfl,X⟩;refine⟨bG X,?_⟩;have tb: -1<=pQ s p.old/\pQ s p.old<4294967295:=by
   have:=hd_bd O.u;unfold pQ;split<;>omega
  simp(disch:=omega) only[zS,aj,ap,nr,kX];refine(oM (E.aF X) H (a:=s.dV+y.toNat) dB (pQ s p.old+1)).mono ?_;rintro _ w2 ⟨cp,T1,e,I⟩;refine⟨lF cp,?_⟩;have e:=(Gx.bL (S:=λk=>k=h.mb) R ((ad.refl [] w).drew.drew.trans X)).trans e;obtain⟨r,d,T',x,G,C⟩:=fin w2 T1 _ {p with at':=p.at'+1} e I rfl;obtain⟨_,_,_,h2,_,_⟩:=pu_f e.rel r;simp(disch:=omega) only[h2,zS,aj,e1,ap];rw[gB (o:=0+2) rfl rfl (pu_ok d dB),d,aB,au,puA_2];apply L199_0_ok;rw[t,F];exact⟨T',x,G,C⟩
 rw[bV c3]at t;have W:((p.at':Int)==(p.l.length:Int))=false:=aW dB;obtain⟨y,hy,F,y0,y1⟩:=O.l.at (i:=0) dB;obtain⟨q,f,U,lq,tq⟩:=L.int hy k;have U:ai prog (Instr.indexAt 22 (.slice A p.l.length k) (bN 0))=some (.pointer (some ⟨q,f,none⟩)):=U;have d1:=dn H hT M;have d2:=dn H Y Z;have d3:=dl H tq;simp(disch:=omega) only[F199,ptr,ae,mH,fa_293_0,fa_293_1,rH,fa_293_3,kU,ry,az,lU,bx,aK,ag,br,hd,f0,f1,f2,f3,Q,s0,s1,aQ,aH,aj,e2,ap,V,J,W,zS,U,lq,pS,d1,d2,d3,not_false_eq_true,true_and];refine(c_next O.u y).mono ?_;rintro _ w1 ⟨rfl,X⟩;refine⟨bG X,?_⟩;refine(c_Cas (E.aF X) H (a:=s.head) Kh p.old (r5 p.old y)).mono ?_;rintro _ w2 ⟨rfl,cp,T1,e,I⟩;refine⟨lF cp,?_⟩;have e:=(Gx.bL (S:=λk=>k=h.mb) R ((ad.refl [] w).drew.drew.trans X)).trans e;obtain⟨r,d,T',x,G,C⟩:=fin w2 T1 _ {p with done:=decide (cf m s.head=p.old),at':=p.l.length-1} e I rfl;try simp only[]
 rw[st_4 (o:=0+4) rfl rfl (pu_ok d dB),d,aB,au,puA_4];have B:hp (put w2 b (puA sb A k p.l.length p.at' p.old (decide (cf m s.head=p.old))) 293) b=some (.cells (puA sb A k p.l.length p.at' p.old (decide (cf m s.head=p.old))) 293):=ar (aD d) _ _;try simp(disch:=omega) only[ptr,ae,rH,zS,aH,e2,ap]
 rw[gB (o:=0+2) rfl rfl (pu_ok B dB),B,aB,au,puA_2,m6];apply L199_0_ok;rw[t,F];by_cases hm:cf m s.head=p.old
 ·rw[bU hm]at G⊢;rw[cr hm]at x C⊢;exact⟨T',x,G,C⟩
 ·rw[bV hm]at G⊢;rw[bZ hm]at x C⊢;exact⟨T',x,G,C⟩
end
section
variable{w w1 w':World}{T T':dH}{h:Hm}{c:cx}{m m':bd}{o b sb:Nat}{s:iF}
def poA(sb:Nat)(a at' deep old:Int)(lv:Value)(done:Bool):Array Value:= #[ptr sb,bN a,bN at',bN deep,bR old,lv,.bool done]
def poL(sb:Nat)(p:PoV)(lv:Value):List Value:=(poA sb p.ni p.at' p.deep p.old lv p.done).toList
def poC(sb:Nat)(p:PoV):List fF:= [.v (ptr sb),.v (bN p.ni),.v (bN p.at'),.v (bN p.deep),.v (bR p.old),.gr 3 1 p.l.length (ints p.l),.v (.bool p.done)]
def poN(o sb:Nat)(p:PoV):Nod:= .st o 270 (poC sb p)
theorem poA_2{a b d e x:Int}{lv:Value}{dn:Bool}:(poA sb a b d e lv dn).setIfInBounds (0+2) (bN x)=poA sb a x d e lv dn:=rfl
theorem poA_3{a b d e x:Int}{lv:Value}{dn:Bool}:(poA sb a b d e lv dn).setIfInBounds (0+3) (bN x)=poA sb a b x e lv dn:=rfl
theorem poA_4{a b d e x:Int}{lv:Value}{dn:Bool}:(poA sb a b d e lv dn).setIfInBounds (0+4) (bR x)=poA sb a b d x lv dn:=rfl
theorem poA_5{a b d e:Int}{lv x:Value}{dn:Bool}:(poA sb a b d e lv dn).setIfInBounds (0+5) x=poA sb a b d e x dn:=rfl
theorem poA_6{a b d e:Int}{lv:Value}{dn x:Bool}:(poA sb a b d e lv dn).setIfInBounds (0+6) (.bool x)=poA sb a b d e lv x:=rfl
theorem po_ok{a c d e:Int}{lv:Value}{dn:Bool}{j:Nat}{t:TypeId}(hb:hp w b=some (.cells (poA sb a c d e lv dn) t))(f:j<7):pY (hp w b) (0+j+1)=true:=by
 rw[hb,bq];exact cr (by show 0+j+1<=7;omega)
structure PoF(w:World)(T:dH)(b sb:Nat)(p:PoV)(A:Option Addr)(k:Nat):Prop where
 n:mP w T b 270 (poC sb p) (poL sb p (.slice A p.l.length k))
 own:w.ownsRow 0 3 1 (.slice A p.l.length k) p.l.length (ints p.l)
 ot:∀q,(Value.slice A p.l.length k).ownBlock=some q->T q=some (.own b 5)
 rd:fp w A (ints p.l)
 hb:hp w b=some (.cells (poA sb p.ni p.at' p.deep p.old (.slice A p.l.length k) p.done) 270)
 f0:an (hp w b) (0+0)=some (ptr sb)
 f1:an (hp w b) (0+1)=some (bN p.ni)
 f2:an (hp w b) (0+2)=some (bN p.at')
 f3:an (hp w b) (0+3)=some (bN p.deep)
 f4:an (hp w b) (0+4)=some (bR p.old)
 f5:an (hp w b) (0+5)=some (.slice A p.l.length k)
 f6:an (hp w b) (0+6)=some (.bool p.done)
theorem po_f{p:PoV}(R:Rel w T)(hT:T b=some (poN o sb p)):∃A k,PoF w T b sb p A k:=by
 obtain⟨vs,N⟩:=R.node _ _ _ _ hT;match vs,N.len,N with
 | [v0,v1,v2,v3,v4,v5,v6],_,N=>
  have c:v0=_:=N.each 0 _ _ rfl rfl;have d:v1=_:=N.each 1 _ _ rfl rfl;have e:v2=_:=N.each 2 _ _ rfl rfl;have f:v3=_:=N.each 3 _ _ rfl rfl;have g:v4=_:=N.each 4 _ _ rfl rfl;have i:v6=_:=N.each 6 _ _ rfl rfl;have a:=N.each 5 _ _ rfl rfl;subst c d e f g i;obtain⟨A,k,rfl,j,_⟩:=aT a.1;refine⟨A,k,N,a.1,a.2,j,N.hb,?_,?_,?_,?_,?_,?_,?_⟩<;>rw[N.hb]<;>rfl
theorem PoF.aF{A:Option Addr}{k:Nat}{p:PoV}(F:PoF w T b sb p A k)(R:Rel w T)(a:ad [] w w'):PoF w' T b sb p A k:=
 ⟨⟨a.at F.n.hb (by simp),F.n.len,λj c v d e=>(F.n.each j c v d e).frame (bl.bL a _)⟩,bM F.own a (λk _=>by simp),F.ot,F.rd.ao a.below,a.at F.hb (by simp),lj a F.f0,lj a F.f1,lj a F.f2,lj a F.f3,lj a F.f4,lj a F.f5,lj a F.f6⟩
theorem PoF.put{A:Option Addr}{k:Nat}{p:PoV}(F:PoF w T b sb p A k)(R:Rel w T)(hT:T b=some (poN o sb p))(p':PoV)(c:p'.l=p.l):
  Gx (λq=>q=b) w T (Ev.put w b (poA sb p'.ni p'.at' p'.deep p'.old (.slice A p.l.length k) p'.done) 270) (ig T b (poN o sb p')):=by
 refine Gx.put (vs':=poL sb p' (.slice A p.l.length k)) R hT rfl λj g v a d=>?_;have e:=(bY.1 a).1;have f:j=0\/j=1\/j=2\/j=3\/j=4\/j=5\/j=6:=by simp[poC]at e;omega
 rcases f with rfl|rfl|rfl|rfl|rfl|rfl|rfl<;>cases a<;>cases d
 ·rfl
 ·rfl
 ·rfl
 ·rfl
 ·rfl
 ·rw[c];exact⟨F.own,F.ot⟩
 ·rfl
theorem PoF.grow{A:Option Addr}{k:Nat}{p:PoV}(F:PoF w T b sb p A k)(R:Rel w T)(hT:T b=some (poN o sb p))(p':PoV){lv:Value}(c:bl (λq=>(Value.slice A p.l.length k).ownBlock=some q) w w1)(d:hI w (.slice A p.l.length k) lv)(e:w1.ownsRow 0 3 1 lv p'.l.length (ints p'.l)):
  hp w1 b=hp w b/\∃T',T' b=some (poN o sb p')/\Gx (λq=>q=b) w T (Ev.put w1 b (poA sb p'.ni p'.at' p'.deep p'.old lv p'.done) 270) T':=by
 refine Gx.grow (vs':=poL sb p' lv) (cs':=poC sb p') R hT F.n (k:=5) rfl rfl c d e rfl rfl rfl λj r v f a g=>?_;have i:=(bY.1 a).1;have m:j=0\/j=1\/j=2\/j=3\/j=4\/j=6:=by simp[poC]at i;omega
 rcases m with rfl|rfl|rfl|rfl|rfl|rfl<;>cases a<;>cases g<;>rfl
theorem ji{v:Value}(a:w.grownBy w' v.ownBlock):bl (λq=>v.ownBlock=some q) w w':=⟨a.os,a.tape,a.output,a.size,λk b c=>a.block k b λe=>c e.symm⟩
theorem pr_mn{P:Program}{c:Array TypeId}{t:TypeId}{k:IntKind}{a b:Int}:ai P (Builtin.min_ c t #[.int k a,.int k b])=some (.int k (min a b)):=by
 rw[aU (v:= .int k (if b<a then b else a)) λw=>by simp[Builtin.min_,Builtin.min2]];congr 2;by_cases h:b<a
 ·rw[bU h,Int.min_eq_right dB]
 ·rw[bV h,Int.min_eq_left dB]
theorem pr_mx{P:Program}{c:Array TypeId}{t:TypeId}{k:IntKind}{a b:Int}:ai P (Builtin.max_ c t #[.int k a,.int k b])=some (.int k (max a b)):=by
 rw[aU (v:= .int k (if b>a then b else a)) λw=>by simp[Builtin.max_,Builtin.max2]];congr 2;by_cases h:b>a
 ·rw[bU h,Int.max_eq_right dB]
 ·rw[bV h,Int.max_eq_left dB]
theorem c_Pop(R:Rel w T)(a:Int)(o:Nat):aa prog 174 [ptr sb,bN a] w λv w'=>∃b T',v=ptr b/\w.heap.size<=b/\ad [] w w'/\Gx (λ_=>False) w T w' T'/\T' b=some (poN o sb (poNew a)):=by
 apply F174_ok;have c:∀x,ai prog (Instr.build 270 #[(0,ptr sb),(1,bN x)])=some (.agg (poA sb x 0 0 0 (.slice none 0 0) false)):=λx=>bd_270_0_1;simp only[F174,pr_mn,pr_mx,c,ak,aq,ac];have g:=Gx.new (S:=λ_=>False) (vs:=poL sb (poNew a) (.slice none 0 0)) (cs:=poC sb (poNew a)) R o 270 rfl λj k v d e=>by
  have f:=(bY.1 d).1;have i:j=0\/j=1\/j=2\/j=3\/j=4\/j=5\/j=6:=by simp[poC]at f;omega
  rcases i with rfl|rfl|rfl|rfl|rfl|rfl|rfl<;>cases d<;>cases e
  ·rfl
  ·rfl
  ·rfl
  ·rfl
  ·rfl
  ·exact tR
  ·rfl
 exact⟨w.heap.size,_,rfl,cy _,(ad.refl _ _).alloc _,g,ax⟩
theorem own_cap{v:Value}{base n:Nat}{e:TypeId}{z:Nat}{us:List Value}(h:w.ownsRow base e z v n us):∃A k,v= .slice A n k/\n<=k:=by
 rcases h.2 with⟨rfl,b⟩|⟨g,cap,c,rfl,d,f,a,_⟩
 ·exact⟨none,0,by rw[b],dB⟩
 ·exact⟨_,_,rfl,a⟩
theorem c_Got{p:PoV}(R:Rel w T)(hT:T b=some (poN o sb p))(C:p.l.length<=100000):aa prog 177 [ptr b] w λv w'=>∃A k,v= .slice A (dS p).length k/\(dS p).length<=k/\Lo w' T A (ints (dS p))/\ad [] w w':=by
 apply F177_ok;obtain⟨A,k,F⟩:=po_f R hT;have a:=F.f6;cases c:p.done with
 |false=>
  rw[c]at a;simp only[F177,ptr,ae,jP,az,a,zS];have:dS p= []:=by rw[dS,c];rfl
  rw[this];exact⟨none,0,rfl,cy _,Lo.nil _ _ _,ad.refl _ _⟩
 |true=>
  rw[c]at a;have:dS p=p.l:=by rw[dS,c];rfl
  rw[this];simp only[F177,ptr,ae,rF,jP,az,aK,a,F.f5,zS];obtain⟨i,f,g,j,hb⟩:=oC;refine cp_flat (z:=bN 0) underlying22 f g j rfl dB (by simp[ints]) F.rd (λu m=>?_) dB dB λv w1 e n r=>?_
  ·obtain⟨y,_,rfl⟩:=List.mem_map.1 m;exact⟨_,_,rfl⟩
  obtain⟨A',s,rfl,t⟩:=flat_src ⟨_,e⟩;obtain⟨D,k2,x,d⟩:=own_cap (gN e).1;cases x;have nn:∀q,A'=some q->w.heap.size<=q.block:=λq B=>n q.block (by rw[B];rfl);exact⟨A',s,rfl,d,Lo.new R t nn,r⟩
structure PoOk(s:iF)(p:PoV):Prop where
 l:s7 s p.l
 n:p.l.length<=10000
 u:sR p.old
 mo:p.ni<=8
 nd:p.done=false->p.at'=1->1<=p.l.length
theorem rd_int{A:Option Addr}{l:List Int}(L:fp w A (ints l)){i:Nat}{y:Int}(a:l[i]? =some y)(k:Nat):∃q f,ai prog (Instr.indexAt 22 (.slice A l.length k) (bN i))=some (.pointer (some ⟨q,f,none⟩))/\an (hp w q) f=some (bN y):=by
 have e:=(bY.1 a).1;obtain⟨q,f,b,d,_⟩:=L.elem1 (P:=prog) (c:=k) (n:=l.length) (i:=(i:Int)) (j:= .i64) underlying22 aE (by simp[ints]) dB dB;exact⟨q,f,b,by rw[d,cj,ints,cN,a];rfl⟩
theorem c_PoStep(R:Rel w T)(H:dG T h c m)(U:o≠0)(hS:T sb=some (.st 0 156 ((og h.mb s).map fF.v)))(K:StkOk s m){p:PoV}(hT:T b=some (poN o sb p))(O:PoOk s p):
  aa prog 176 [ptr b] w λv w'=>∃T',Gx (λk=>k=h.mb\/k=b) w T w' T'/\dG T' h c (dK s m p).1/\T' b=some (poN o sb (dK s m p).2):=by
 apply F176_ok (D:=DM T h);have a7:=H.s8 hT U;obtain⟨A,k,F⟩:=po_f R hT;obtain⟨s0,s1,s2,s3⟩:=stk_f R hS;have hd:∀{w1:World} {j:Nat},hp w1.drew j=hp w1 j:=rfl;have Kh:=K.hd;have Kl:=K.lk;have Kn:=K.n;have Km:=K.ml;have hn:=O.n;have b4:sb≠h.mb:=by obtain⟨n,hn⟩:=H.mT;exact ay hS hn dC
 have c3:sb≠b:=tQ hS hT (λe=>U e.symm);have c0:ad [] w w.drew:=(ad.refl [] w).drew;have Rd:=R.aF c0;have V:∀{L:World->Prop} {w:World} {T:dH} {p:PoV} {A:Option Addr} {k:Nat} (x:Bool),PoF w T b sb p A k->ck prog (Instr.storeAt 4 (.pointer (some ⟨b,0+6,none⟩)) (.bool x)) w L=L (put w b (poA sb p.ni p.at' p.deep p.old (.slice A p.l.length k) x) 270):=λx F=>by
  rw[st_4 (o:=0+6) rfl rfl (po_ok F.hb dB),F.hb,aB,au,poA_6]
 have b1:∀{L:World->Prop} {w:World} {T:dH} {p:PoV} {A:Option Addr} {k:Nat} (x:Int),PoF w T b sb p A k->ck prog (Instr.storeAt 3 (.pointer (some ⟨b,0+2,none⟩)) (bN x)) w L=L (put w b (poA sb p.ni x p.deep p.old (.slice A p.l.length k) p.done) 270):=λx F=>by
  rw[gB (o:=0+2) rfl rfl (po_ok F.hb dB),F.hb,aB,au,poA_2]
 have f6:=F.f6;cases z:p.done with
 |true=>
  rw[z]at f6;simp only[F176,ptr,ae,jP,az,f6,zS];rw[dK,bU z];exact⟨T,Gx.refl R,H,hT⟩
 |false=>
 rw[z]at f6;have g:dK s m p=if p.at'=0 then
   (if pQ s (cf m s.head)<0 then(m,{p with old:=cf m s.head,l:= [],done:=true})
   else(m,{p with old:=cf m s.head,l:= [pQ s (cf m s.head)],at':=1}))
  else if p.at'=1 then
   (if 0<=gC s (cf m (s.dV+(p.l.getD (p.l.length-1) 0).toNat))/\(p.l.length:Int)<p.ni then
    (m,{p with deep:=gC s (cf m (s.dV+(p.l.getD (p.l.length-1) 0).toNat)),l:=p.l++ [gC s (cf m (s.dV+(p.l.getD (p.l.length-1) 0).toNat))]})
   else(m,{p with deep:=gC s (cf m (s.dV+(p.l.getD (p.l.length-1) 0).toNat)),at':=2}))
  else if cf m s.head=p.old then(m.set s.head (r5 p.old p.deep),{p with done:=true,at':=0})
  else(m,{p with done:=false,at':=0}):=by rw[dK,bV (by rw[z];simp)]
 by_cases a0:p.at'=0
 ·rw[bU a0]at g;have q0:((p.at':Int)==0)=true:=by rw[a0];rfl
  simp only[F176,ptr,ae,jP,fa_270_0,fa_270_2,kU,ry,az,lU,bx,ag,hd,F.f0,F.f2,f6,s0,s1,q0,zS];refine(iR Rd H (a:=s.head) Kh).mono ?_;rintro _ w1 ⟨rfl,_,T1,C,H1⟩;have C:=(Gx.bL (S:=λk=>k=h.mb) R c0).trans C;have B:=C.off b _ hT a7;obtain⟨A1,k1,F1⟩:=po_f C.rel B;simp only[fa_270_4,rF,ac];rw[nG (o:=0+4) rfl rfl (po_ok F1.hb dB),F1.hb,aB,au,poA_4];have t:=F1.put C.rel B {p with old:=cf m s.head} rfl;have H2:=H1.bP t B U;have r:ig T1 b (poN o sb {p with old:=cf m s.head}) b=some _:=ax;generalize ig T1 b (poN o sb {p with old:=cf m s.head})=T2 at*;have t:Gx (λq=>q=b) w1 T1 (put w1 b (poA sb p.ni p.at' p.deep (cf m s.head) (.slice A1 p.l.length k1) p.done) 270) T2:=t;generalize put w1 b (poA sb p.ni p.at' p.deep (cf m s.head) (.slice A1 p.l.length k1) p.done) 270=w2 at*;obtain⟨A2,k2,F2⟩:=po_f t.rel r;rw[st_22 (o:=0+5) rfl rfl (po_ok F2.hb dB),F2.hb,aB,au,poA_5];obtain⟨_,T3,M,W⟩:=F2.grow t.rel r {p with old:=cf m s.head,l:= []} (lv:= .slice none 0 0) (bl.refl _ _) (λq hq=>by cases hq) (World.ownsRow_nil _ _ _ _);have H3:=H2.bP W r U;have W:Gx (λq=>q=b) w2 T2 (put w2 b (poA sb p.ni p.at' p.deep (cf m s.head) (.slice none 0 0) p.done) 270) T3:=W;generalize put w2 b (poA sb p.ni p.at' p.deep (cf m s.head) (.slice none 0 0) p.done) 270=w3 at*;have X:Gx (λk=>k=h.mb\/k=b) w T w3 T3:=((C.mono λ_ h=> .inl h).trans (t.mono λ_ h=> .inr h)).trans (W.mono λ_ h=> .inr h);obtain⟨A3,k3,F3⟩:=po_f W.rel M;have b7:=X.off sb _ hS dB;have f4:an (hp w3 b) (0+4)=some (bR (cf m s.head)):=F3.f4;simp only[br,f4,ac];refine(c_Top W.rel b7 (iw K.u _)).mono ?_;rintro _ w4 ⟨rfl,c4⟩;have R4:=W.rel.aF c4;have b5:Gx (λk=>k=h.mb\/k=b) w T w4 T3:=X.trans (Gx.bL W.rel c4);obtain⟨A4,k4,F4⟩:=po_f R4 M;by_cases ht:pQ s (cf m s.head)<0
  ·rw[bU ht]at g;simp only[zS,ht];rw[V true F4];apply L176_0_ok;have J:=F4.put R4 M {p with old:=cf m s.head,l:= [],done:=true} rfl;rw[g];exact⟨_,b5.trans (J.mono λ_ h=> .inr h),H3.bP J M U,ax⟩
  ·rw[bV ht]at g;have f5:an (hp w4 b) (0+5)=some (.slice A4 0 k4):=F4.f5;simp only[aK,f5,zS,ht];refine ps_22 (by simp) F4.own (by simp) (cQ _) λY w5 o5 b2 b3=>?_;obtain⟨E,T5,Z,J⟩:=F4.grow R4 M {p with old:=cf m s.head,l:= [pQ s (cf m s.head)]} (lv:=Y) (ji b2) b3 (by simpa [ints]using o5);have H5:=H3.bP J M U;have E:=E.trans F4.hb;have G:Y.cells= #[Y]/\Y.oneCell'=true:=by obtain⟨A',k',rfl,_⟩:=aT o5;exact⟨rfl,rfl⟩
   rw[st_22 (o:=0+5) G.1 G.2 (po_ok E dB),E,aB,au,poA_5];have J:Gx (λq=>q=b) w4 T3 (put w5 b (poA sb p.ni p.at' p.deep (cf m s.head) Y p.done) 270) T5:=J;generalize put w5 b (poA sb p.ni p.at' p.deep (cf m s.head) Y p.done) 270=w6 at*;obtain⟨A6,k6,F6⟩:=po_f J.rel Z;rw[b1 1 F6];apply L176_0_ok;have g6:=F6.put J.rel Z {p with old:=cf m s.head,l:= [pQ s (cf m s.head)],at':=1} rfl;rw[g];exact⟨_,(b5.trans (J.mono λ_ h=> .inr h)).trans (g6.mono λ_ h=> .inr h),H5.bP g6 Z U,ax⟩
 rw[bV a0]at g;have q0:((p.at':Int)==0)=false:=aW dB;by_cases a1:p.at'=1
 ·rw[bU a1]at g;have n1:=O.nd z a1;have q1:((p.at':Int)==1)=true:=by rw[a1];rfl
  obtain⟨y,hy,b8,y0,y1⟩:=O.l.at (i:=p.l.length-1) dB;obtain⟨q,f,iq,lq⟩:=rd_int F.rd hy k;have e2:((p.l.length:Int)-1)=((p.l.length-1:Nat):Int):=dB;have ea:(s.dV:Int)+y=((s.dV+y.toNat:Nat):Int):=dB;rw[b8]at g;simp(disch:=omega) only[F176,ptr,ae,jP,fa_270_0,fa_270_2,rF,kU,fa_156_2,az,lU,bx,aK,ag,hd,F.f0,F.f2,F.f5,f6,s0,s2,q0,q1,zS,aQ,aH,aj,e2,ap,iq,lq,ea];refine(iR Rd H (a:=s.dV+y.toNat) dB).mono ?_;rintro _ w1 ⟨rfl,_,T1,C,H1⟩;have C:=(Gx.bL (S:=λk=>k=h.mb) R c0).trans C;have B:=C.off b _ hT a7;have b9:=C.off sb _ hS b4;refine(c_Below C.rel b9 dB (iw K.u _)).step ?_;generalize c5:gC s (cf m (s.dV+y.toNat))=d at*;obtain⟨A1,k1,F1⟩:=po_f C.rel B;simp only[fa_270_3,ac];rw[gB (o:=0+3) rfl rfl (po_ok F1.hb dB),F1.hb,aB,au,poA_3];have t:=F1.put C.rel B {p with deep:=d} rfl;have H2:=H1.bP t B U;have r:ig T1 b (poN o sb {p with deep:=d}) b=some _:=ax;generalize ig T1 b (poN o sb {p with deep:=d})=T2 at*;have t:Gx (λq=>q=b) w1 T1 (put w1 b (poA sb p.ni p.at' d p.old (.slice A1 p.l.length k1) p.done) 270) T2:=t;generalize put w1 b (poA sb p.ni p.at' d p.old (.slice A1 p.l.length k1) p.done) 270=w2 at*;have b6:Gx (λk=>k=h.mb\/k=b) w T w2 T2:=(C.mono λ_ h=> .inl h).trans (t.mono λ_ h=> .inr h);obtain⟨A2,k2,F2⟩:=po_f t.rel r;have P:ad [] w2 w2.drew:=(ad.refl [] w2).drew;have R2:=t.rel.aF P;have c1:Gx (λk=>k=h.mb\/k=b) w T w2.drew T2:=b6.trans (Gx.bL t.rel P);have f3:an (hp w2 b) (0+3)=some (bN d):=F2.f3;have f5:an (hp w2 b) (0+5)=some (.slice A2 p.l.length k2):=F2.f5;have f1:an (hp w2 b) (0+1)=some (bN p.ni):=F2.f1;have a9:dK s m p=(m,{p with deep:=d,at':=2})->ck prog (Instr.storeAt 3 (.pointer (some ⟨b,0+2,none⟩)) (bN 2)) w2.drew λw'=>P176_0 w' λv w'=>∃T',Gx (λk=>k=h.mb\/k=b) w T w' T'/\dG T' h c (dK s m p).1/\T' b=some (poN o sb (dK s m p).2):=λe=>by
   have Q:=F2.aF t.rel P;rw[b1 2 Q];apply L176_0_ok;have J:=Q.put R2 r {p with deep:=d,at':=2} rfl;rw[e];exact⟨_,c1.trans (J.mono λ_ h=> .inr h),H2.bP J r U,ax⟩
  by_cases I:0<=d
  ·by_cases a8:(p.l.length:Int)<p.ni
   ·rw[bU ⟨I,a8⟩]at g;simp only[ae,fa_270_1,rF,ag,aK,hd,f1,f3,f5,zS,aQ,I,a8];have Q:=F2.aF t.rel P.drew;have c2:=t.rel.aF P.drew;refine ps_22 (by simp) Q.own (by show p.l.length+1<=_;omega) (cQ _) λY w5 o5 b2 b3=>?_;obtain⟨E,T5,Z,J⟩:=Q.grow c2 r {p with deep:=d,l:=p.l++ [d]} (lv:=Y) (ji b2) b3 (by simpa [ints]using o5);have H5:=H2.bP J r U;have E:=E.trans Q.hb;have G:Y.cells= #[Y]/\Y.oneCell'=true:=by obtain⟨A',k',rfl,_⟩:=aT o5;exact⟨rfl,rfl⟩
    rw[st_22 (o:=0+5) G.1 G.2 (po_ok E dB),E,aB,au,poA_5];apply L176_0_ok;rw[g];exact⟨T5,(b6.trans (Gx.bL t.rel P.drew)).trans (J.mono λ_ h=> .inr h),H5,Z⟩
   ·rw[bV (λe=>a8 e.2)]at g;simp only[ae,fa_270_1,rF,ag,aK,hd,f1,f3,f5,zS,aQ,I,a8];exact a9 g
  ·rw[bV (λe=>I e.1)]at g;simp only[ag,hd,f3,zS,I];exact a9 g
 rw[bV a1]at g;have q1:((p.at':Int)==1)=false:=aW dB;have d1:=dn H hT a7;have d2:=dn H hS b4;simp only[F176,ptr,ae,jP,fa_270_0,fa_270_2,fa_270_3,fa_270_4,kU,ry,az,lU,bx,ag,br,hd,F.f0,F.f2,F.f3,F.f4,f6,s0,s1,q0,q1,zS,pS,d1,d2,not_false_eq_true,true_and];refine(c_next O.u p.deep).mono ?_;rintro _ w1 ⟨rfl,c4⟩;refine⟨bG c4,?_⟩;refine(c_Cas (Rd.aF c4) H (a:=s.head) Kh p.old (r5 p.old p.deep)).mono ?_;rintro _ w2 ⟨rfl,cp,T1,C,H1⟩;refine⟨lF cp,?_⟩;generalize I:decide (cf m s.head=p.old)=dd at*;have C:=(Gx.bL (S:=λk=>k=h.mb) R (c0.trans c4)).trans C;have B:=C.off b _ hT a7;obtain⟨A1,k1,F1⟩:=po_f C.rel B;try simp only[ptr,ae,jP,ac]
 rw[V _ F1];have t:=F1.put C.rel B {p with done:=dd} rfl;have H2:=H1.bP t B U;have r:ig T1 b (poN o sb {p with done:=dd}) b=some _:=ax;generalize ig T1 b (poN o sb {p with done:=dd})=T2 at*;have t:Gx (λq=>q=b) w2 T1 (put w2 b (poA sb p.ni p.at' p.deep p.old (.slice A1 p.l.length k1) (dd)) 270) T2:=t;generalize put w2 b (poA sb p.ni p.at' p.deep p.old (.slice A1 p.l.length k1) (dd)) 270=w3 at*;obtain⟨A3,k3,F3⟩:=po_f t.rel r;rw[b1 0 F3];apply L176_0_ok;have W:=F3.put t.rel r {p with done:=dd,at':=0} rfl;have H3:=H2.bP W r U;have X:=((C.mono (S':=λk=>k=h.mb\/k=b) λ_ h=> .inl h).trans (t.mono λ_ h=> .inr h)).trans (W.mono λ_ h=> .inr h);rw[g];by_cases hm:cf m s.head=p.old
 ·rw[bU hm]at H3⊢;have:dd=true:=by rw[<- I,cr hm]
  subst this;exact⟨_,X,H3,ax⟩
 ·rw[bV hm]at H3⊢;have:dd=false:=by rw[<- I,bZ hm]
  subst this;exact⟨_,X,H3,ax⟩
end
section
variable{W w w1 w':World}{T T':dH}{o b:Nat}{l l2:List Int}{v v2:Value}{K:Value->World->Prop}
def kL(w:World)(T:dH)(v:Value)(l:List Int):Prop:=∃A k,v= .slice A l.length k/\l.length<=k/\Lo w T A (ints l)
theorem kL.nil:kL w T (.slice none 0 0) []:=⟨none,0,rfl,cy _,Lo.nil _ _ _⟩
theorem kL.gx{S:Nat->Prop}(h:kL w T v l)(g:Gx S w T w' T'):kL w' T' v l:=by
 obtain⟨A,k,e,a,L⟩:=h;exact⟨A,k,e,a,L.gx g⟩
theorem kL.aF(h:kL w T v l)(a:ad [] w w'):kL w' T v l:=by
 obtain⟨A,k,e,b,L⟩:=h;exact⟨A,k,e,b,L.aF a⟩
def SlX(S:Nat->Prop)(w:World)(T:dH)(v:Value)(l:List Int):Prop:=∃A k,v= .slice A l.length k/\∀w' T',Gx S w T w' T'->fp w' A (ints l)
theorem kL.own{base:Nat}(R:Rel w T)(h:w1.ownsRow base 3 1 v l.length (ints l))(hb:w.heap.size<=base):kL w1 T v l:=by
 obtain⟨A,k,e,a⟩:=own_cap h;obtain⟨A',d,e',b,c,_⟩:=aT h;rw[e]at e';cases e';exact⟨A,k,e,a,Lo.new R b λp hp=>cU hb (c p hp).1⟩
theorem kL.one(h:kL w T v l):v.cells= #[v]/\v.oneCell'=true:=by
 obtain⟨A,k,rfl,_⟩:=h;exact⟨rfl,rfl⟩
theorem ints_one(l:List Int):∀u∈ints l,u.oneCell'=true:=λu a=>by
 obtain⟨y,_,rfl⟩:=List.mem_map.1 a;rfl
theorem sU(h:kL w T v l)(o:l.length<=500000)(a:∀v' w',w'.ownsRow w.heap.size 3 1 v' l.length (ints l)->ad [] w w'->K v' w'):cP prog (Builtin.append_ #[22,22] 22 #[.slice none 0 0,v]) w K:=by
 obtain⟨A,k,rfl,_,L⟩:=h;obtain⟨i,b,c,d,hb⟩:=oC;refine ja (base:=w.heap.size) (xs:= []) (n:=0) (news:=ints l) (m:=l.length) underlying22 b c d rfl dB (World.ownsRow_nil _ _ _ _) (by simp[ints]) (λj u e=>L.rd j u e) (ints_one l) (by unfold maxLen;omega) (by rw[hb];omega) (cy _) λx1 w1 f g=>?_;exact a x1 w1 (by simpa using f) ((ad.refl _ _).grown g λk a=>by simp[Value.ownBlock]at a)
theorem eff_catR{base:Nat}(d:w.ownsRow base 3 1 v l.length (ints l))(f:ad [] W w)(hb:W.heap.size<=base)(a:base<=w.heap.size)(g:∃A k,v2= .slice A l2.length k/\fp w A (ints l2))(t:l.length+l2.length<=500000)
  (b:∀v' w',w'.ownsRow base 3 1 v' (l++l2).length (ints (l++l2))->ad [] W w'->w.heap.size<=w'.heap.size->K v' w'):cP prog (Builtin.append_ #[22,22] 22 #[v,v2]) w K:=by
 obtain⟨A,k,rfl,L⟩:=g;obtain⟨i,o,p,q,c⟩:=oC;refine ja (base:=base) (xs:=ints l) (n:=l.length) (news:=ints l2) (m:=l2.length) underlying22 o p q rfl dB d (by simp[ints]) (λj u r=>L j u r) (ints_one l2) (by unfold maxLen;omega) (by rw[c];omega) a λx1 w1 s e=>?_;refine b x1 w1 (by rw[cq];simpa [ints]using s) (f.grown e λk b=> .inr (by have:=oS d b;omega)) e.size
theorem eff_catI{base:Nat}(b:w.ownsRow base 3 1 v l.length (ints l))(c:ad [] W w)(hb:W.heap.size<=base)(a:base<=w.heap.size)(d:kL w T v2 l2)(f:l.length+l2.length<=500000)
  (g:∀v' w',w'.ownsRow base 3 1 v' (l++l2).length (ints (l++l2))->ad [] W w'->w.heap.size<=w'.heap.size->K v' w'):cP prog (Builtin.append_ #[22,22] 22 #[v,v2]) w K:=by
 obtain⟨A,k,e,_,L⟩:=d;exact eff_catR b c hb a ⟨A,k,e,L.rd⟩ f g
def stA(a:Int)(v:Value):Array Value:= #[bN a,v]
theorem stA_1{a:Int}{v x:Value}:(stA a v).setIfInBounds (0+1) x=stA a x:=rfl
def stN(o:Nat)(a:Int)(v:Value):Nod:= .st o 258 ((stA a v).toList.map fF.v)
def StR(w:World)(T:dH)(o b:Nat)(a:Int)(l:List Int):Prop:=∃v,T b=some (stN o a v)/\kL w T v l
theorem StR.gx{S:Nat->Prop}{a:Int}(h:StR w T o b a l)(g:Gx S w T w' T')(c:¬S b):StR w' T' o b a l:=by
 obtain⟨v,hT,L⟩:=h;exact⟨v,g.off b _ hT c,L.gx g⟩
theorem StR.aF{a:Int}(h:StR w T o b a l)(c:ad [] w w'):StR w' T o b a l:=by
 obtain⟨v,hT,L⟩:=h;exact⟨v,hT,L.aF c⟩
theorem st_f{a:Int}(R:Rel w T)(hT:T b=some (stN o a v)):hp w b=some (.cells (stA a v) 258)/\an (hp w b) (0+0)=some (bN a)/\an (hp w b) (0+1)=some v:=by
 have hb:hp w b=some (.cells (stA a v) 258):=R.kK hT;rw[hb];exact⟨rfl,rfl,rfl⟩
theorem st_set{a:Int}(R:Rel w T)(hT:T b=some (stN o a v))(c:Rel w1 T)(d:kL w1 T v2 l2){L:World->Prop}
  (e:∀w' T',Gx (λq=>q=b) w1 T w' T'->StR w' T' o b a l2->L w'):ck prog (Instr.storeAt 22 (.pointer (some ⟨b,0+1,none⟩)) v2) w1 L:=by
 obtain⟨hb,_,_⟩:=st_f c hT;have one:=d.one;rw[st_22 (o:=0+1) one.1 one.2 (by rw[hb,bq];exact cr (by show 0+1+1<=2;omega)),hb,aB,au,stA_1];have g:=Gx.putv c hT (stA a v2).toList;exact e _ _ g ⟨v2,ax,d.gx g⟩
theorem c_NewStash(R:Rel w T){a:Int}(d:0<=a/\a<=64)(o:Nat):aa prog 134 [bN a] w λv w'=>∃b T',v=ptr b/\w.heap.size<=b/\ad [] w w'/\Gx (λ_=>False) w T w' T'/\StR w' T' o b a []:=by
 apply F134_ok;have c:∀x,ai prog (Instr.build 258 #[(0,bN x)])=some (.agg (stA x (.slice none 0 0))):=λx=>bd_258_0;have e:min (max a 0) 64=a:=dB;simp only[F134,pr_mn,pr_mx,e,c,ak,aq,ac];have g:=Gx.pR (S:=λ_=>False) R o 258 (stA a (.slice none 0 0)).toList;exact⟨w.heap.size,_,rfl,cy _,(ad.refl _ _).alloc _,g,_,ax,kL.nil⟩
theorem c_StGive{a:Int}(R:Rel w T)(S:StR w T o b a l)(e:kL w T v2 l2)(f:l.length+l2.length<=500000):aa prog 219 [ptr b,v2] w λv w'=>∃T',Gx (λq=>q=b) w T w' T'/\StR w' T' o b a (l++l2):=by
 apply F219_ok;obtain⟨v,hT,L⟩:=S;obtain⟨hb,f0,f1⟩:=st_f R hT;simp only[F219,ptr,ae,rE,aK,f1,ac];refine sU L dB λm w1 i c=>?_;refine eff_catI (W:=w) (T:=T) i c (cy _) c.size (e.aF c) f λn w2 j d p=>?_;have k:=R.aF d;refine st_set R hT k (kL.own R j (cy _)) λw' T' g S'=>?_;exact⟨T',(Gx.bL R d).trans g,S'⟩
theorem c_StTake{d:Int}(R:Rel w T)(S:StR w T o b d l)(H:l.length<=500000):aa prog 230 [ptr b] w λv w'=>v= .tuple #[bN (if l.length=0 then 0 else l.getD (l.length-1) 0),.bool (decide (l.length≠0))]/\∃T',Gx (λq=>q=b) w T w' T'/\StR w' T' o b d (l.take (l.length-1)):=by
 apply F230_ok;obtain⟨v,hT,L⟩:=S;obtain⟨hb,f0,f1⟩:=st_f R hT;obtain⟨A,k,rfl,z,a⟩:=L;by_cases i:l.length=0
 ·have j:(((l.length:Nat):Int)==0)=true:=by rw[i];rfl
  simp only[F230,ptr,ae,rE,aK,f1,aQ,zS,j];refine⟨by simp[i],T,Gx.refl R,_,hT,?_⟩;have:l= []:=List.length_eq_zero_iff.1 i;subst this;exact⟨A,k,rfl,z,a⟩
 ·have j:(((l.length:Nat):Int)==0)=false:=aW dB;have B:((l.length:Int)-1)=((l.length-1:Nat):Int):=dB;obtain⟨y,s⟩:∃y,l[l.length-1]? =some y:=⟨_,bX dB⟩
  obtain⟨q,f,C,D,_⟩:=a.int s k;have u:=tB (P:=prog) (t:=22) (A:=A) (n:=l.length) (c:=k) (k:= .i64) (l:=((l.length-1:Nat):Int)) underlying22 aE dB dB;rw[cj]at u;simp(disch:=omega) only[F230,ptr,ae,rE,aK,ag,f1,aQ,zS,j,aH,B,ap,C,D,u];have m:(l.take (l.length-1)).length=l.length-1:=by rw[dt];omega
  have E:kL w T (.slice A (l.length-1) k) (l.take (l.length-1)):=⟨A,k,by rw[m],dB,by rw[show ints (l.take (l.length-1))=(ints l).take (l.length-1)by simp[ints]];exact a.rd.take _,λp hp r=>a.off p hp λe=>r (by rw[show ints (l.take (l.length-1))=(ints l).take (l.length-1)by simp[ints],e,List.take_nil])⟩
  refine sU E dB λI w1 F x=>?_;refine st_set R hT (R.aF x) (kL.own R F (cy _)) λw' T' g S'=>?_;have G:l.getD (l.length-1) 0=y:=by rw[cu,s];rfl
  exact⟨by rw[bV i,G,cr i],T',(Gx.bL R x).trans g,S'⟩
theorem c_StAll{a:Int}(R:Rel w T)(S:StR w T o b a l):aa prog 226 [ptr b] w λv w'=>∃T',kL w' T' v l/\Gx (λq=>q=b) w T w' T'/\StR w' T' o b a []:=by
 apply F226_ok;obtain⟨v,hT,L⟩:=S;obtain⟨hb,f0,f1⟩:=st_f R hT;simp only[F226,ptr,ae,rE,aK,f1,ac];refine st_set R hT R kL.nil λw' T' g S'=>?_;exact⟨T',L.gx g,g,S'⟩
theorem c_StOver{a:Int}(R:Rel w T)(S:StR w T o b a l)(V:l.length<=500000)(W:0<=a/\a<=64):aa prog 223 [ptr b] w λv w'=>∃T',kL w' T' v (l.take (l.length-a.toNat))/\Gx (λq=>q=b) w T w' T'/\StR w' T' o b a (l.drop (l.length-a.toNat)):=by
 apply F223_ok;obtain⟨v,hT,L⟩:=S;obtain⟨hb,f0,f1⟩:=st_f R hT;obtain⟨A,k,rfl,X,d⟩:=L;have G:∀{w1:World} {j:Nat},hp w1.drew j=hp w1 j:=rfl;generalize H:l.length-a.toNat=j;have I:max ((l.length:Int)-a) 0=((j:Nat):Int):=dB;have Y:j<=l.length:=dB;have C:=tB (P:=prog) (t:=22) (A:=A) (n:=l.length) (c:=k) (k:= .i64) (l:=(j:Int)) underlying22 aE dB dB;have r:=tA (P:=prog) (t:=22) (A:=A) (n:=l.length) (c:=k) (k:= .i64) (l:=(j:Int)) underlying22 aE dB dB;rw[cj]at C r;have x:ad [] w w.drew:=(ad.refl [] w).drew;simp(disch:=omega) only[F223,ptr,ae,fa_258_0,rE,aK,ag,G,f0,f1,aQ,zS,aH,ap,pr_mx,I,C];have D:ints (l.take j)=(ints l).take j:=by simp[ints]
 have E:ints (l.drop j)=(ints l).drop (j*1):=by simp[ints]
 have y:(l.take j).length=j:=by rw[dt];omega
 have z:(l.drop j).length=l.length-j:=by rw[List.length_drop]
 have J:kL w.drew T (.slice A j k) (l.take j):=⟨A,k,by rw[y],dB,by rw[D];exact(d.aF x).rd.take _,λp hp m=>d.off p hp λe=>m (by rw[D,e,List.take_nil])⟩
 refine sU J dB λZ w1 K M=>?_;have f:=x.trans M;obtain⟨_,_,B⟩:=st_f (R.aF f) hT;simp(disch:=omega) only[B,zS,r];have O:kL w1 T (.slice (if k=j then A else A.map (·.add (j*1))) (l.length-j) (k-j)) (l.drop j):=by
  refine⟨_,_,by rw[z],dB,by rw[E];exact(d.aF f).rd.drop k j 1 (λh=>by simp[ints];omega),λp hp m=>?_⟩;have i:ints l≠ []:=λe=>m (by rw[E,e,List.drop_nil]);by_cases s:k=j
  ·rw[bU s]at hp;exact d.off p hp i
  ·rw[bV s]at hp;obtain⟨q,Q,rfl⟩:=dc.1 hp;rw[qY];exact d.off q Q i
 refine sU O dB λv4 w2 U F=>?_;have u:=f.trans F;refine st_set R hT (R.aF u) (kL.own (R.aF f) U (cy _)) λw' T' g S'=>?_;exact⟨T',((kL.own (R.aF x) K (cy _)).aF F).gx g,(Gx.bL R u).trans g,S'⟩
end
section
variable{W w w1 w':World}{T T':dH}{o b:Nat}{lb:r8}{v:Value}{now:Int}
def lbA(t:List Int)(vs:List Value)(last:Int):List Value:=t.map (Value.int .i64)++vs++ [bN last]
def lbN(o:Nat)(t:List Int)(vs:List Value)(last:Int):Nod:= .st o 262 ((lbA t vs last).map fF.v)
structure r8.ok(lb:r8):Prop where
 t:lb.tag.length=3
 l:lb.l.length=3
def tS(w:World)(T:dH)(o b:Nat)(lb:r8):Prop:=∃vs,T b=some (lbN o lb.tag vs lb.last)/\vs.length=3/\lb.ok/\∀k v,vs[k]? =some v->kL w T v (lb.l.getD k [])
theorem tS.gx{S:Nat->Prop}(h:tS w T o b lb)(g:Gx S w T w' T')(a:¬S b):tS w' T' o b lb:=by
 obtain⟨vs,hT,c,d,e⟩:=h;exact⟨vs,g.off b _ hT a,c,d,λk v f=>(e k v f).gx g⟩
theorem tS.aF(h:tS w T o b lb)(a:ad [] w w'):tS w' T o b lb:=by
 obtain⟨vs,hT,c,d,e⟩:=h;exact⟨vs,hT,c,d,λk v f=>(e k v f).aF a⟩
structure LbF(w:World)(T:dH)(b:Nat)(lb:r8)(vs:List Value):Prop where
 hb:hp w b=some (.cells (lbA lb.tag vs lb.last).toArray 262)
 tg:∀k,k<3->an (hp w b) (0+0+k*1)=some (bN (lb.tag.getD k 0))
 ls:∀k,k<3->∃v,vs[k]? =some v/\an (hp w b) (0+3+k*1)=some v/\kL w T v (lb.l.getD k [])
 la:an (hp w b) (0+6)=some (bN lb.last)
theorem lb_f{vs:List Value}(R:Rel w T)(hT:T b=some (lbN o lb.tag vs lb.last))(d:vs.length=3)(c:lb.ok)(a:∀k v,vs[k]? =some v->kL w T v (lb.l.getD k [])):LbF w T b lb vs:=by
 have hb:hp w b=some (.cells (lbA lb.tag vs lb.last).toArray 262):=R.kK hT;obtain⟨tag,l,last⟩:=lb;have a1:=c.t;have a2:=c.l;simp only at a1 a2 hb a⊢;match tag,a1,vs,d with
 | [t0,t1,t2],_, [v0,v1,v2],_=>
  refine⟨hb,λk e=>?_,λk e=>?_,?_⟩
  ·have:k=0\/k=1\/k=2:=dB;rcases this with rfl|rfl|rfl<;>rw[hb]<;>rfl
  ·have:k=0\/k=1\/k=2:=dB;rcases this with rfl|rfl|rfl<;>rw[hb]
   ·exact⟨v0,rfl,rfl,a 0 v0 rfl⟩
   ·exact⟨v1,rfl,rfl,a 1 v1 rfl⟩
   ·exact⟨v2,rfl,rfl,a 2 v2 rfl⟩
  ·rw[hb];rfl
theorem ixT{k:Nat}{f:Nat}(a:k<3):ai prog (Instr.indexAt 259 (.pointer (some ⟨b,f,none⟩)) (bN k))=some (.pointer (some ⟨b,f+k*1,none⟩)):=by
 have:=pr_indexA (P:=prog) (t:=259) (b:=b) (o:=f) (k:= .i64) (i:=(k:Int)) Tryz.underlying259 aE dB dB
 rwa[cj]at this
theorem ixL{k:Nat}{f:Nat}(a:k<3):ai prog (Instr.indexAt 260 (.pointer (some ⟨b,f,none⟩)) (bN k))=some (.pointer (some ⟨b,f+k*1,none⟩)):=by
 have:=pr_indexA (P:=prog) (t:=260) (b:=b) (o:=f) (k:= .i64) (i:=(k:Int)) Tryz.underlying260 sz_22 dB dB
 rwa[cj]at this
theorem kj{l:List Int}(h:kL w T v l):ai prog (Builtin.len_ #[22] 3 #[v])=some (bN l.length):=by
 obtain⟨A,k,rfl,_⟩:=h;exact aQ
def sV(lb:r8)(now best:Int)(k:Nat):Int:=if k=0 then bW lb now (bW lb now (bW lb now best 0) 1) 2 else if k=1 then bW lb now (bW lb now best 1) 2 else if k=2 then bW lb now best 2 else best
theorem least_rng{best:Int}{k:Nat}(a:k<3)(hb:best= -1\/(0<=best/\best<3)):bW lb now best k= -1\/(0<=bW lb now best k/\bW lb now best k<3):=by
 unfold bW;split
 ·right;omega
 ·exact hb
theorem leastFrom_step{best:Int}{k:Nat}(a:k<3):sV lb now best k=sV lb now (bW lb now best k) (k+1):=by
 have:k=0\/k=1\/k=2:=dB;rcases this with rfl|rfl|rfl<;>rfl
theorem l_least(x:0<=now/\now<=4611686018427387904){vs:List Value}(R:Rel w T)(hT:T b=some (lbN o lb.tag vs lb.last))(y:vs.length=3)(z:lb.ok)(A:∀k v,vs[k]? =some v->kL w T v (lb.l.getD k [])):
  ∀(d k:Nat) (best:Int) (w1:World),ad [] w w1->k+d=3->(best= -1\/(0<=best/\best<3))->P232_0 (ptr b) (bN now) (bN best) (bN k) w1 λv w'=>v=bN (sV lb now best k)/\ad [] w w':=by
 intro d;induction d with
 |zero=>
  intro k best w1 n B hb;apply L232_0_ok;have:¬((k:Int)<3):=dB;simp only[L232_0,zS,this];refine⟨?_,n⟩;have:k=3:=dB;subst this;rfl
 |succ d C=>
  intro k best w1 n B hb;apply L232_0_ok;have f:(k:Int)<3:=dB;have a:k<3:=dB;have t:ad [] w w1.drew:=n.drew;have F:=lb_f (R.aF n) hT y z λk v D=>(A k v D).aF n;obtain⟨v,_,lv,p⟩:=F.ls k a;have s:=F.tg k a;rw[leastFrom_step a];have E:=least_rng (lb:=lb) (now:=now) a hb;have next:P232_1 (ptr b) (bN now) (bN (bW lb now best k)) (bN k) w1.drew λv w'=>v=bN (sV lb now (bW lb now best k) (k+1))/\ad [] w w':=by
   apply L232_1_ok;simp(disch:=omega) only[L232_1,aj,ap,ac];have:=C (k+1) _ w1.drew t dB E;rw[df k 1]at this;exact this
  by_cases u:0<(lb.l.getD k []).length
  case neg=>
   have e:bW lb now best k=best:=by rw[bW,bV (λh=>u h.1)]
   rw[e]at next⊢
   have c:¬(0:Int)<((lb.l.getD k []).length:Int):=dB;simp only[L232_0,ptr,ae,zS,f,iJ,ixL a,aK,lv,kj p,c];exact next
  have c:(0:Int)<((lb.l.getD k []).length:Int):=dB;by_cases j:lb.tag.getD k 0<=now-2
  case neg=>
   have e:bW lb now best k=best:=by rw[bW,bV (λh=>j h.2.1)]
   rw[e]at next⊢
   simp(disch:=omega) only[L232_0,ptr,ae,zS,f,nz,iJ,ixL a,ixT a,aK,ag,lv,s,kj p,c,aH,ap,j];exact next
  by_cases q:best<0
  ·have e:bW lb now best k=k:=by rw[bW,bU ⟨u,j,.inl q⟩]
   rw[e]at next⊢
   simp(disch:=omega) only[L232_0,ptr,ae,zS,f,nz,iJ,ixL a,ixT a,aK,ag,lv,s,kj p,c,aH,ap,j,q];exact next
  ·obtain⟨g,rfl⟩:∃g:Nat,best=g:=⟨best.toNat,dB⟩
   have m:g<3:=dB;have r:=F.tg g m;have e:bW lb now g k=if lb.tag.getD k 0<lb.tag.getD g 0 then(k:Int)else g:=by
    rw[bW];by_cases i:lb.tag.getD k 0<lb.tag.getD g 0
    ·rw[bU i,bU ⟨u,j,.inr (by rw[cj];exact i)⟩]
    ·rw[bV i,bV];rintro⟨_,_,h|h⟩
     ·exact q h
     ·rw[cj]at h;exact i h
   rw[e]at next⊢
   by_cases i:lb.tag.getD k 0<lb.tag.getD g 0
   ·rw[bU i]at next⊢
    simp(disch:=omega) only[L232_0,ptr,ae,zS,f,nz,iJ,ixL a,ixT a,ixT m,aK,ag,lv,s,r,kj p,c,aH,ap,j,q,i];exact next
   ·rw[bV i]at next⊢
    simp(disch:=omega) only[L232_0,ptr,ae,zS,f,nz,iJ,ixL a,ixT a,ixT m,aK,ag,lv,s,r,kj p,c,aH,ap,j,q,i];exact next
theorem c_Least(a:0<=now/\now<=4611686018427387904)(R:Rel w T)(L:tS w T o b lb):aa prog 232 [ptr b,bN now] w λv w'=>v=bN (ke lb now)/\ad [] w w':=by
 apply F232_ok;obtain⟨vs,hT,c,d,e⟩:=L;exact l_least a R hT c d e 3 0 (-1) w (ad.refl _ _) rfl (.inl rfl)
theorem c_Open(a:0<=now/\now<=4611686018427387904)(R:Rel w T)(L:tS w T o b lb):aa prog 231 [ptr b,bN now] w λv w'=>v= .bool (sc lb now)/\ad [] w w':=by
 apply F231_ok;by_cases c:2<=now
 ·simp only[F231,zS,c];refine(c_Least a R L).mono ?_;rintro _ w1 ⟨rfl,d⟩;simp only[zS];exact⟨by rw[sc,cr c,Bool.true_and],d⟩
 ·simp only[F231,zS,c];exact⟨by rw[sc,bZ c,Bool.false_and],ad.refl _ _⟩
theorem c_LbLen(R:Rel w T)(L:tS w T o b lb)(a:∀k,(lb.l.getD k []).length<=500000):aa prog 229 [ptr b] w λv w'=>v=bN (jh lb)/\ad [] w w':=by
 apply F229_ok;obtain⟨vs,hT,c,d,e⟩:=L;have f:ad [] w w.drew:=(ad.refl [] w).drew;have F:=lb_f R hT c d e;obtain⟨s,_,g,i⟩:=F.ls 0 dB;obtain⟨t,_,j,m⟩:=F.ls 1 dB;obtain⟨v2,_,l2,n⟩:=F.ls 2 dB;have p:ai prog (Instr.indexAt 260 (.pointer (some ⟨b,0+3,none⟩)) (bN 0))=some (.pointer (some ⟨b,0+3+0*1,none⟩)):=ixL (k:=0) dB;have q:ai prog (Instr.indexAt 260 (.pointer (some ⟨b,0+3,none⟩)) (bN 1))=some (.pointer (some ⟨b,0+3+1*1,none⟩)):=ixL (k:=1) dB;have r:ai prog (Instr.indexAt 260 (.pointer (some ⟨b,0+3,none⟩)) (bN 2))=some (.pointer (some ⟨b,0+3+2*1,none⟩)):=ixL (k:=2) dB;have u:=a 0;have x:=a 1;have y:=a 2;simp(disch:=omega) only[F229,ptr,ae,zS,iJ,p,q,r,aK,g,j,l2,kj i,kj m,kj n,aj,ap];exact⟨by rw[jh];push_cast;rfl,f⟩
theorem c_NewLimbo(R:Rel w T)(o:Nat):aa prog 135 [] w λv w'=>∃b T',v=ptr b/\w.heap.size<=b/\ad [] w w'/\Gx (λ_=>False) w T w' T'/\tS w' T' o b lbNew:=by
 apply F135_ok;have a:ai prog (Instr.build 262 #[(2,bN (-1))])=some (.agg (lbA [0,0,0] [.slice none 0 0,.slice none 0 0,.slice none 0 0] (-1)).toArray):=bd_262_2;simp only[F135,a,ak,aq,ac];have g:=Gx.pR (S:=λ_=>False) R o 262 (lbA [0,0,0] [.slice none 0 0,.slice none 0 0,.slice none 0 0] (-1));refine⟨w.heap.size,_,rfl,cy _,(ad.refl _ _).alloc _,g, [.slice none 0 0,.slice none 0 0,.slice none 0 0],ax,rfl,⟨rfl,rfl⟩,λk v c=>?_⟩;have d:=(bY.1 c).1;have:k=0\/k=1\/k=2:=by simp at d;omega
 rcases this with rfl|rfl|rfl<;>cases c<;>exact kL.nil
theorem lbA_l{t:List Int}{vs:List Value}{last:Int}{k:Nat}(a:t.length=3)(b:vs.length=3)(c:k<3)(x:Value):(lbA t vs last).toArray.setIfInBounds (0+3+k*1) x=(lbA t (vs.set k x) last).toArray:=by
 match t,a,vs,b with
 | [t0,t1,t2],_, [v0,v1,v2],_=>
  have:k=0\/k=1\/k=2:=dB;rcases this with rfl|rfl|rfl<;>rfl
theorem lbA_t{t:List Int}{vs:List Value}{last:Int}{k:Nat}(a:t.length=3)(b:vs.length=3)(c:k<3)(x:Int):(lbA t vs last).toArray.setIfInBounds (0+0+k*1) (bN x)=(lbA (t.set k x) vs last).toArray:=by
 match t,a,vs,b with
 | [t0,t1,t2],_, [v0,v1,v2],_=>
  have:k=0\/k=1\/k=2:=dB;rcases this with rfl|rfl|rfl<;>rfl
theorem lbA_6{t:List Int}{vs:List Value}{last:Int}(a:t.length=3)(b:vs.length=3)(x:Int):(lbA t vs last).toArray.setIfInBounds (0+6) (bN x)=(lbA t vs x).toArray:=by
 match t,a,vs,b with
 | [t0,t1,t2],_, [v0,v1,v2],_=>rfl
theorem lb_okC{t:List Int}{vs:List Value}{last:Int}{e:TypeId}(hb:hp w b=some (.cells (lbA t vs last).toArray e))(a:t.length=3)(c:vs.length=3){f:Nat}(d:f<7):pY (hp w b) (f+1)=true:=by
 rw[hb,bq];exact cr (by simp[lbA,a,c];omega)
theorem lb_setL(d:Rel w1 T)(L:tS w1 T o b lb){k:Nat}(e:k<3){l2:List Int}{v2:Value}(f:kL w1 T v2 l2){K:World->Prop}
  (i:∀w' T',Gx (λq=>q=b) w1 T w' T'->tS w' T' o b {lb with l:=lb.l.set k l2}->K w'):ck prog (Instr.storeAt 22 (.pointer (some ⟨b,0+3+k*1,none⟩)) v2) w1 K:=by
 obtain⟨vs,hT,a1,a2,a3⟩:=L;have F:=lb_f d hT a1 a2 a3;have one:=f.one;rw[st_22 (o:=0+3+k*1) one.1 one.2 (lb_okC F.hb a2.t a1 dB),F.hb,aB,au,lbA_l a2.t a1 e];have g:=Gx.putv d hT (lbA lb.tag (vs.set k v2) lb.last);refine i _ _ g ⟨vs.set k v2,ax,by rw[cE];exact a1,⟨a2.t,by rw[cE];exact a2.l⟩,λj u a=>?_⟩;rw[cR]at a;by_cases c:k=j
 ·subst c;rw[bU rfl,bU dB]at a;cases a;rw[show(lb.l.set k l2).getD k []=l2 by rw[cu,cR,bU rfl,bU (by rw[a2.l];exact e)];rfl];exact f.gx g
 ·rw[bV c]at a;rw[show(lb.l.set k l2).getD j []=lb.l.getD j []by rw[cu,cu,cR,bV c]];exact(a3 j u a).gx g
theorem lb_setT(a:Rel w1 T)(L:tS w1 T o b lb){k:Nat}(c:k<3)(x:Int){K:World->Prop}
  (d:∀w' T',Gx (λq=>q=b) w1 T w' T'->tS w' T' o b {lb with tag:=lb.tag.set k x}->K w'):ck prog (Instr.storeAt 3 (.pointer (some ⟨b,0+0+k*1,none⟩)) (bN x)) w1 K:=by
 obtain⟨vs,hT,a1,a2,a3⟩:=L;have F:=lb_f a hT a1 a2 a3;rw[gB (o:=0+0+k*1) rfl rfl (lb_okC F.hb a2.t a1 dB),F.hb,aB,au,lbA_t a2.t a1 c];have g:=Gx.putv a hT (lbA (lb.tag.set k x) vs lb.last);exact d _ _ g ⟨vs,ax,a1,⟨by rw[cE];exact a2.t,a2.l⟩,λj u e=>(a3 j u e).gx g⟩
theorem lb_setLa(a:Rel w1 T)(L:tS w1 T o b lb)(x:Int){K:World->Prop}
  (c:∀w' T',Gx (λq=>q=b) w1 T w' T'->tS w' T' o b {lb with last:=x}->K w'):ck prog (Instr.storeAt 3 (.pointer (some ⟨b,0+6,none⟩)) (bN x)) w1 K:=by
 obtain⟨vs,hT,a1,a2,a3⟩:=L;have F:=lb_f a hT a1 a2 a3;rw[gB (o:=0+6) rfl rfl (lb_okC F.hb a2.t a1 dB),F.hb,aB,au,lbA_6 a2.t a1];have g:=Gx.putv a hT (lbA lb.tag vs x);exact c _ _ g ⟨vs,ax,a1,⟨a2.t,a2.l⟩,λj u d=>(a3 j u d).gx g⟩
end
section
variable{W w w1 w':World}{T0 T T':dH}{o b sb wb:Nat}{lb:r8}{v:Value}{now:Int}{l l2:List Int}
theorem Gx.local{S:Nat->Prop}{F:Nat->Prop}(g:Gx S W T0 w T)(a:bl F w w1)(c:∀k,F k->W.heap.size<=k/\T k=none):Gx S W T0 w1 T:=
 ⟨g.rel.frame (a.mono λk b=>(c k b).2),⟨a.os.trans g.aF.os,a.tape.trans g.aF.tape,a.output.trans g.aF.output,cU g.aF.size a.size,λk b d=>by
  rw[a.block k (de b g.aF.size) λh=>by have:=(c k h).1;omega];exact g.aF.block k b d⟩,g.off,g.own,g.non,g.ty⟩
theorem lb_setL0{vs:List Value}(a:Rel w1 T)(hT:T b=some (lbN o lb.tag vs lb.last))(a1:vs.length=3)(a2:lb.ok)(a3:∀k v,vs[k]? =some v->kL w1 T v (lb.l.getD k [])){k:Nat}(c:k<3){v2:Value}(one:v2.cells= #[v2]/\v2.oneCell'=true){K:World->Prop}
  (d:∀w' T',Gx (λq=>q=b) w1 T w' T'->T' b=some (lbN o lb.tag (vs.set k v2) lb.last)->bl (λq=>q=b) w1 w'->(∀ q,q≠b->T' q=T q)->K w'):ck prog (Instr.storeAt 22 (.pointer (some ⟨b,0+3+k*1,none⟩)) v2) w1 K:=by
 have F:=lb_f a hT a1 a2 a3;rw[st_22 (o:=0+3+k*1) one.1 one.2 (lb_okC F.hb a2.t a1 dB),F.hb,aB,au,lbA_l a2.t a1 c];exact d _ _ (Gx.putv a hT (lbA lb.tag (vs.set k v2) lb.last)) ax (bl.put _ _ _ _) λq e=>aC e
def fullN(lb:r8):Nat:=(if 0<(lb.l.getD 0 []).length then 1 else 0)+(if 0<(lb.l.getD 1 []).length then 1 else 0)+(if 0<(lb.l.getD 2 []).length then 1 else 0)
theorem tT{k:Nat}{best:Int}(h:bW lb now best k≠best):0<(lb.l.getD k []).length/\bW lb now best k=k:=by
 unfold bW at h⊢;split
 ·rename_i a;exact⟨a.1,rfl⟩
 ·rename_i a;rw[bV a]at h;exact absurd rfl h
theorem open_full(h:sc lb now=true):∃k:Nat,ke lb now=k/\k<3/\0<(lb.l.getD k []).length:=by
 unfold sc at h;simp only[cZ,decide_eq_true_eq]at h;have j:=h.2;unfold ke at j⊢;generalize d:bW lb now (-1) 0=a at*;generalize e:bW lb now a 1=b at*;generalize f:bW lb now b 2=c at*;by_cases g:c=b
 ·subst g;by_cases i:c=a
  ·subst i;by_cases m:c= -1
   ·omega
   ·have:=tT (lb:=lb) (now:=now) (k:=0) (best:= -1) (by rw[d];exact m);rw[d]at this;exact⟨0,this.2,dB,this.1⟩
  ·have:=tT (lb:=lb) (now:=now) (k:=1) (best:=a) (by rw[e];exact i);rw[e]at this;exact⟨1,this.2,dB,this.1⟩
 ·have:=tT (lb:=lb) (now:=now) (k:=2) (best:=b) (by rw[f];exact g);rw[f]at this;exact⟨2,this.2,dB,this.1⟩
theorem full_set(d:lb.l.length=3){k:Nat}(f:k<3)(e:0<(lb.l.getD k []).length):fullN {lb with l:=lb.l.set k []}<fullN lb:=by
 obtain⟨tag,l,last⟩:=lb;simp only at d e⊢;match l,d with
 | [a,b,c],_=>
  have:k=0\/k=1\/k=2:=dB;rcases this with rfl|rfl|rfl<;>simp only[fullN,List.set_cons_zero,List.set_cons_succ,List.getD_cons_zero,List.getD_cons_succ,cY]at e⊢ <;>(repeat' split)<;>omega
theorem l_ready(p:0<=now/\now<=4611686018427387904)(R0:Rel W T0)(a7:b<W.heap.size):
  ∀(f:Nat) (lb:r8) (vs:List Value) (d:List Int) (v:Value) (w:World) (T:dH),fullN lb<f->Gx (λq=>q=b) W T0 w T->T b=some (lbN o lb.tag vs lb.last)->(∀ q,q≠b->T q=T0 q)->vs.length=3->lb.ok->(∀ k v,vs[k]? =some v->kL W T0 v (lb.l.getD k []))->
   w.ownsRow W.heap.size 3 1 v d.length (ints d)->d.length+(lb.l.getD 0 []).length+(lb.l.getD 1 []).length+(lb.l.getD 2 []).length<=400000->
   P225_0 (ptr b) (bN now) v w λv w'=>∃T',w'.ownsRow W.heap.size 3 1 v (eY f lb now d).1.length (ints (eY f lb now d).1)/\Gx (λq=>q=b) W T0 w' T'/\tS w' T' o b (eY f lb now d).2/\∀q,q≠b->T' q=T0 q:=by
 intro f;induction f with
 |zero=>intro lb vs d v w T hf;omega
 |succ f ih=>
  intro lb vs d v w T hf g hT s a1 a2 a3 ho r;apply L225_0_ok;have L:tS w T o b lb:=⟨vs,hT,a1,a2,λk v z=>(a3 k v z).gx g⟩
  simp only[L225_0];refine(c_Open p g.rel L).mono ?_;rintro _ w1 ⟨rfl,E⟩;have G:=g.trans (Gx.bL g.rel E);have Z:=bM ho E λk _=>by simp
  rw[eY];cases I:sc lb now with
  |false=>
   simp only[zS,Bool.false_eq_true,if_false];exact⟨T,Z,G,L.aF E,s⟩
  |true=>
  obtain⟨k,hk,e,J⟩:=open_full I;simp only[zS,if_true];refine(c_Least p G.rel (L.aF E)).mono ?_;rintro _ w2 ⟨rfl,c2⟩;have H:=G.trans (Gx.bL G.rel c2);have o2:=bM Z c2 λk _=>by simp
  rw[hk,cj];have K:∀k v,vs[k]? =some v->kL w2 T v (lb.l.getD k []):=λk v z=>(a3 k v z).gx H;have F:=lb_f H.rel hT a1 a2 K;obtain⟨u,x,lu,Lu⟩:=F.ls k e;have a8:(lb.l.getD k []).length<=(lb.l.getD 0 []).length+(lb.l.getD 1 []).length+(lb.l.getD 2 []).length:=by
   have:k=0\/k=1\/k=2:=dB;rcases this with rfl|rfl|rfl<;>omega
  simp only[zS,ptr,iJ,ixL e,aK,lu];obtain⟨A,kk,rfl,_,M⟩:=Lu;obtain⟨i,hi,hz,hs,O⟩:=oC;refine ja (base:=W.heap.size) (xs:=ints d) (n:=d.length) (news:=ints (lb.l.getD k [])) (m:=(lb.l.getD k []).length) underlying22 hi hz hs rfl dB o2 (by simp[ints]) (λj u B=>M.rd j u B) (ints_one _) (by unfold maxLen;omega) (by rw[O];omega) H.size λx3 P o3 Q=>?_;have R:Gx (λq=>q=b) W T0 P T:=Gx.local H (ji Q) λq y=>by
   have C:=oS o2 y;refine⟨C,?_⟩;by_cases S:q=b
   ·omega
   ·rw[s q S];exact R0.fresh C
  have D:∀k v,vs[k]? =some v->kL P T v (lb.l.getD k []):=λk v z=>(a3 k v z).gx R;refine lb_setL0 R.rel hT a1 a2 D e (v2:= .slice none 0 0) ⟨rfl,rfl⟩ λw4 T4 g4 U c4 V=>?_;have X:P.ownsRow W.heap.size 3 1 x3 (d++lb.l.getD k []).length (ints (d++lb.l.getD k [])):=by rw[cq];simpa [ints]using o3
  have o4:=c4.row X λq y (h:q=b)=>by have:=oS o3 y;omega
  have Y:=R.trans g4;have l4:(d++lb.l.getD k []).length+((lb.l.set k []).getD 0 []).length+((lb.l.set k []).getD 1 []).length+((lb.l.set k []).getD 2 []).length<=400000:=by
   have hl:=a2.l;obtain⟨tag,l,last⟩:=lb;simp only at hl r⊢;match l,hl with
   | [a,b,c],_=>
    rw[cq];have:k=0\/k=1\/k=2:=dB;rcases this with rfl|rfl|rfl<;>simp only[List.set_cons_zero,List.set_cons_succ,List.getD_cons_zero,List.getD_cons_succ,cY]at r⊢ <;>omega
  have a9:=full_set a2.l e J;exact ih {lb with l:=lb.l.set k []} (vs.set k (.slice none 0 0)) (d++lb.l.getD k []) x3 w4 T4 dB Y U (λq y=>(V q y).trans (s q y)) (by rw[cE];exact a1) ⟨a2.t,by rw[cE];exact a2.l⟩ (λj u x=>by
   rw[cR]at x;by_cases B:k=j
   ·subst B;rw[bU rfl,bU dB]at x;cases x;rw[show(lb.l.set k []).getD k []= []by rw[cu,cR,bU rfl];split<;>rfl];exact kL.nil
   ·rw[bV B]at x;rw[show(lb.l.set k []).getD j []=lb.l.getD j []by rw[cu,cu,cR,bV B]];exact a3 j u x) o4 l4
def r8.few(lb:r8):Prop:=(lb.l.getD 0 []).length+(lb.l.getD 1 []).length+(lb.l.getD 2 []).length<=200000
theorem tS.lt(R:Rel w T)(L:tS w T o b lb):b<w.heap.size:=by
 obtain⟨vs,hT,_⟩:=L;exact R.lt b _ hT
theorem c_Ready(a:0<=now/\now<=4611686018427387904)(R:Rel w T)(L:tS w T o b lb)(d:lb.few):aa prog 225 [ptr b,bN now] w λv w'=>∃T',kL w' T' v (eY 4 lb now []).1/\Gx (λq=>q=b) w T w' T'/\tS w' T' o b (eY 4 lb now []).2:=by
 apply F225_ok;have hb:=L.lt R;obtain⟨vs,hT,a1,a2,a3⟩:=L;have:fullN lb<4:=by unfold fullN;(repeat' split)<;>omega
 refine Part.mono (l_ready a R hb 4 lb vs [] (.slice none 0 0) w T this (Gx.refl R) hT (λ_ _=>rfl) a1 a2 a3 (World.ownsRow_nil _ _ _ _) (by unfold r8.few at d;simp only[cY];omega)) λv w' h=>?_;obtain⟨T',c,g,f,i⟩:=h;refine⟨T',?_,g,f⟩;obtain⟨A,k,e,j⟩:=own_cap c;obtain⟨A',r,e',l,m,_⟩:=aT c;rw[e]at e';cases e';exact⟨A,k,e,j,l,λp hp _=>by
  have n:=(m p hp).1;rw[i p.block dB];exact R.fresh n⟩
theorem tmod3{tag:Int}(h:0<=tag):tag%3=(((tag%3).toNat:Nat):Int)/\(tag%3).toNat<3:=dB
theorem slX_len{S:Nat->Prop}{l:List Int}{v:Value}(h:SlX S w T v l):ai prog (Builtin.len_ #[22] 3 #[v])=some (bN l.length):=by
 obtain⟨A,k,rfl,_⟩:=h;exact aQ
theorem c_LbRetire(R:Rel w T)(L:tS w T o b lb)(hf:lb.few){v2:Value}(Y:SlX (λq=>q=b) w T v2 l2)(hl:l2.length<=100000)(tag:Int):
  aa prog 221 [ptr b,bN tag,v2] w λv w'=>∃u T',v= .tuple #[u,.bool (eH lb tag l2).2.1]/\kL w' T' u (eH lb tag l2).1/\Gx (λq=>q=b) w T w' T'/\tS w' T' o b (eH lb tag l2).2.2:=by
 apply F221_ok;have Z:=L;obtain⟨vs,hT,a1,a2,a3⟩:=L;have F:=lb_f R hT a1 a2 a3;have no:(l2.length=0\/tag<0\/4611686018427387903<tag\/tag<lb.last)->∃u T',Value.tuple #[.slice none 0 0,.bool false]= .tuple #[u,.bool (eH lb tag l2).2.1]/\kL w T' u (eH lb tag l2).1/\Gx (λq=>q=b) w T w T'/\tS w T' o b (eH lb tag l2).2.2:=λh=>by
  rw[eH,bU h];exact⟨_,T,rfl,kL.nil,Gx.refl R,Z⟩
 simp only[F221,slX_len Y,zS,ptr];by_cases q1:l2.length=0
 ·have e:(((l2.length:Nat):Int)==0)=true:=by rw[q1];rfl
  simp only[zS,e];exact no (.inl q1)
 have y:(((l2.length:Nat):Int)==0)=false:=aW dB;by_cases m:tag<0
 ·simp only[zS,y,m];exact no (.inr (.inl m))
 by_cases z:4611686018427387903<tag
 ·simp only[zS,y,m,z];exact no (.inr (.inr (.inl z)))
 by_cases E:tag<lb.last
 ·simp only[zS,y,m,z,fa_262_2,ag,F.la,E];exact no (.inr (.inr (.inr E)))
 have rt:eH lb tag l2=if 0<(lb.l.getD (tag%3).toNat []).length/\lb.tag.getD (tag%3).toNat 0<tag then
   (lb.l.getD (tag%3).toNat [],true,⟨lb.tag.set (tag%3).toNat tag,lb.l.set (tag%3).toNat l2,tag⟩)
  else([],true,⟨lb.tag.set (tag%3).toNat tag,lb.l.set (tag%3).toNat (lb.l.getD (tag%3).toNat []++l2),tag⟩):=by rw[eH,bV dB]
 obtain⟨G,a⟩:=tmod3 (tag:=tag) dB;generalize (tag%3).toNat=k at*;have n:(lb.l.getD k []).length<=200000:=by
  unfold r8.few at hf;have:k=0\/k=1\/k=2:=dB;rcases this with rfl|rfl|rfl<;>omega
 simp only[zS,y,m,z,fa_262_2,ag,F.la,E];refine lb_setLa R Z tag λw1 T1 p L1=>?_;have d:=L1;obtain⟨a7,H,b1,b2,b3⟩:=L1;have F1:=lb_f p.rel H b1 b2 b3;obtain⟨u,hu,I,r⟩:=F1.ls k a;have J:=F1.tg k a;simp only at r J;have rest:∀(i:List Int) (x:Value) (w2:World) (T2:dH),Gx (λq=>q=b) w T w2 T2->tS w2 T2 o b {lb with l:=lb.l.set k i,last:=tag}->kL w2 T2 x (eH lb tag l2).1->i.length<=200000->eH lb tag l2=((eH lb tag l2).1,true,⟨lb.tag.set k tag,lb.l.set k (i++l2),tag⟩)->
   P221_0 (bS b) (bN tag) v2 (bN k) x w2 λv w'=>∃u T',v= .tuple #[u,.bool (eH lb tag l2).2.1]/\kL w' T' u (eH lb tag l2).1/\Gx (λq=>q=b) w T w' T'/\tS w' T' o b (eH lb tag l2).2.2:=by
  intro i x w2 T2 s K M a8 he;apply L221_0_ok;simp only[L221_0,ae,ac,nz,ixT a];refine lb_setT s.rel K a tag λB T3 f L3=>?_;have t:=s.trans f;have O:=L3;obtain⟨a9,P,d1,d2,d3⟩:=L3;have F3:=lb_f f.rel P d1 d2 d3;obtain⟨u3,b4,Q,g⟩:=F3.ls k a;simp only at g;rw[show(lb.l.set k i).getD k []=i by rw[cu,cR,bU rfl,bU (by rw[a2.l];exact a)];rfl]at g;simp only[zS,iJ,ixL a,aK,Q];have j:ad [] B B.drew:=(ad.refl [] B).drew;have R3:=f.rel.aF j;refine sU (g.aF j) dB λv4 w4 o4 S=>?_;refine eff_catR (W:=B.drew) o4 S (cy _) S.size (by obtain⟨A,k,e,M⟩:=Y;exact⟨A,k,e,M _ _ (t.trans (Gx.bL f.rel (j.trans S)))⟩) dB λv5 w5 o5 C s5=>?_;have R5:=R3.aF C;have U:=kL.own R3 o5 (cy _);try simp only[ae,ac,iJ,ixL a]
  refine lb_setL R5 ((O.aF j).aF C) a U λw6 T6 g6 L6=>?_;have V:=(t.trans (Gx.bL f.rel (j.trans C))).trans g6;have X:=(f.trans (Gx.bL f.rel (j.trans C))).trans g6;rw[List.set_set]at L6;refine⟨x,T6,by rw[he],M.gx X,V,?_⟩;rw[he];exact L6
 have same:lb.l.set k (lb.l.getD k [])=lb.l:=kZ (by rw[cu,bX (by rw[a2.l];exact a)];rfl);by_cases q5:0<(lb.l.getD k []).length
 ·have c:(0:Int)<((lb.l.getD k []).length:Int):=dB;by_cases D:lb.tag.getD k 0<tag
  ·rw[bU ⟨q5,D⟩]at rt;simp(disch:=omega) only[zS,km,tmd,G,nz,iJ,ixL a,ixT a,aK,ag,I,J,kj r,c,D];refine lb_setL p.rel d a kL.nil λw2 T2 s K=>?_;exact rest [] u w2 T2 (p.trans s) K (by rw[rt];exact r.gx s) (by simp) (by rw[rt];rfl)
  ·rw[bV (λh=>D h.2)]at rt;simp(disch:=omega) only[zS,km,tmd,G,nz,iJ,ixL a,ixT a,aK,ag,I,J,kj r,c,D];exact rest (lb.l.getD k []) _ w1 T1 p (by rw[same];exact d) (by rw[rt];exact kL.nil) n (by rw[rt])
 ·have c:¬(0:Int)<((lb.l.getD k []).length:Int):=dB;rw[bV (λh=>q5 h.1)]at rt;simp(disch:=omega) only[zS,km,tmd,G,iJ,ixL a,aK,I,kj r,c];exact rest (lb.l.getD k []) _ w1 T1 p (by rw[same];exact d) (by rw[rt];exact kL.nil) n (by rw[rt])
end
def SO(T:dH)(o:Nat)(es:List TypeId)(k:Nat):Prop:=∃e cs,T k=some (.st o e cs)/\e∈es
def SM(h:Hm)(T:dH)(o:Nat)(es:List TypeId)(k:Nat):Prop:=k=h.mb\/SO T o es k
section
variable{w w1 w2 w':World}{T T1 T2 T':dH}{h:Hm}{c:cx}{m m':bd}{o o' b sb lb k:Nat}{es es':List TypeId}{l l2:List Int}{v v2:Value}{e:TypeId}{cs:List fF}
theorem SO.back{S:Nat->Prop}(g:Gx S w T w1 T1){a:Nod}(hT:T k=some a)(h:SO T1 o es' k)(d:∀e∈es',e∈es):SO T o es k:=by
 obtain⟨e,cs,b,f⟩:=h;cases a with
 |st m n i=>
  obtain⟨l,c⟩:=g.ty k _ _ _ hT;rw[b]at c;cases c;exact⟨_,_,hT,d _ f⟩
 |own x j=>
  have:=g.own k x j hT;rw[b]at this;cases this
theorem SO.then(g:Gx (SO T o es) w T w1 T1)(a:Gx (SO T1 o es') w1 T1 w2 T2)(b:∀e∈es',e∈es):Gx (SO T o es) w T w2 T2:=g.then a λk d hT c=>c.back g hT b
theorem SM.then(g:Gx (SM h T o es) w T w1 T1)(b:Gx (SM h T1 o es') w1 T1 w2 T2)(c:∀e∈es',e∈es):Gx (SM h T o es) w T w2 T2:=g.then b λk d hT a=>a.imp id λa=>a.back g hT c
theorem SO.one(hT:T b=some (.st o e cs))(a:e∈es)(g:Gx (λq=>q=b) w T w' T'):Gx (SO T o es) w T w' T':=g.mono λk c=>by rw[c];exact⟨e,cs,hT,a⟩
theorem SO.no(g:Gx (λ_=>False) w T w' T'):Gx (SO T o es) w T w' T':=g.mono λ_ h=>h.elim
theorem SO.toM(g:Gx (SO T o es) w T w' T')(a:∀e∈es,e∈es'):Gx (SM h T o es') w T w' T':=g.mono λk ⟨e,cs,b,c⟩=> .inr ⟨e,cs,b,a e c⟩
theorem SM.mem(g:Gx (λq=>q=h.mb) w T w' T'):Gx (SM h T o es) w T w' T':=g.mono λ_ h=> .inl h
theorem SM.two(hT:T b=some (.st o e cs))(c:e∈es)(g:Gx (λq=>q=h.mb\/q=b) w T w' T'):Gx (SM h T o es) w T w' T':=g.mono λk a=>a.imp id λa=>by rw[a];exact⟨e,cs,hT,c⟩
theorem SO.un(hT:T k=some (.st o' e cs))(hn:o'≠o\/e∉es):¬SO T o es k:=fun⟨d,b,a,c⟩=>by
 rw[hT]at a;cases a;rcases hn with hn|hn
 ·exact hn rfl
 ·exact hn c
theorem SM.un(H:dG T h c m)(hT:T k=some (.st o' e cs))(a:o'≠0)(b:o'≠o\/e∉es):¬SM h T o es k:=λhk=>by
 rcases hk with hk|hk
 ·exact H.s8 hT a hk
 ·exact SO.un hT b hk
theorem dG.so(H:dG T h c m)(g:Gx (SO T o es) w T w' T')(b:o≠0):dG T' h c m:=H.gx g λk f d ⟨e,cs,a,_⟩=>by rw[d]at a;cases a;exact⟨_,_,_,rfl,b⟩
theorem dG.no(H:dG T h c m)(g:Gx (λ_=>False) w T w' T'):dG T' h c m:=H.gx g λ_ _ _ h=>h.elim
structure fN(w:World)(T:dH)(o b sb lb:Nat)(h:Hm)(c:cx)(su:lC):Prop where
 n:T b=some (.st o 215 ([ptr h.wb,ptr sb,ptr lb].map fF.v))
 s:StR w T o sb c.2.2.2.2.1 su.st
 l:tS w T o lb su.lb
def suT:List TypeId:= [258,262]
variable{su:lC}
theorem fN.gx{S:Nat->Prop}(U:fN w T o b sb lb h c su)(g:Gx S w T w' T')(hb:¬S b)(a:¬S sb)(d:¬S lb):fN w' T' o b sb lb h c su:=⟨g.off b _ U.n hb,U.s.gx g a,U.l.gx g d⟩
theorem fN.aF(U:fN w T o b sb lb h c su)(a:ad [] w w'):fN w' T o b sb lb h c su:=⟨U.n,U.s.aF a,U.l.aF a⟩
theorem fN.sm(U:fN w T o b sb lb h c su)(H:dG T h c m)(g:Gx (SM h T o' es) w T w' T')(a:o≠0)(d:o≠o'\/(215∉es/\258∉es/\262∉es)):fN w' T' o b sb lb h c su:=by
 obtain⟨v,e,_⟩:=U.s;obtain⟨vs,f,_⟩:=U.l;exact U.gx g (SM.un H U.n a (d.imp id λh=>h.1)) (SM.un H e a (d.imp id λh=>h.2.1)) (SM.un H f a (d.imp id λh=>h.2.2))
theorem fN.so(U:fN w T o b sb lb h c su)(g:Gx (SO T o' es) w T w' T')(a:o≠o'\/(215∉es/\258∉es/\262∉es)):fN w' T' o b sb lb h c su:=by
 obtain⟨v,d,_⟩:=U.s;obtain⟨vs,e,_⟩:=U.l;exact U.gx g (SO.un U.n (a.imp id λh=>h.1)) (SO.un d (a.imp id λh=>h.2.1)) (SO.un e (a.imp id λh=>h.2.2))
theorem fN.no(U:fN w T o b sb lb h c su)(g:Gx (λ_=>False) w T w' T'):fN w' T' o b sb lb h c su:=U.gx g (λh=>h) (λh=>h) (λh=>h)
theorem pU(R:Rel w T)(U:fN w T o b sb lb h c su):an (hp w b) (0+0)=some (ptr h.wb)/\an (hp w b) (0+1)=some (ptr sb)/\an (hp w b) (0+2)=some (ptr lb):=by
 have hb:hp w b=some (.cells #[ptr h.wb,ptr sb,ptr lb] 215):=R.kK U.n;rw[hb];exact⟨rfl,rfl,rfl⟩
theorem StR.un{a:Int}(S:StR w T o sb a l)(b:258∉es):¬SO T o es sb:=by obtain⟨v,c,_⟩:=S;exact SO.un c (.inr b)
theorem tS.un{x:r8}(L:tS w T o lb x)(a:262∉es):¬SO T o es lb:=by obtain⟨v,b,_⟩:=L;exact SO.un b (.inr a)
theorem fN.setS(U:fN w T o b sb lb h c su)(g:Gx (λq=>q=sb) w T w' T')(S:StR w' T' o sb c.2.2.2.2.1 l):Gx (SO T o [258]) w T w' T'/\fN w' T' o b sb lb h c {su with st:=l}:=by
 obtain⟨v,d,_⟩:=U.s;have a:Gx (SO T o [258]) w T w' T':=SO.one d (by simp) g;exact⟨a,a.off b _ U.n (SO.un U.n (.inr dC)),S,U.l.gx a (U.l.un dC)⟩
theorem fN.m7{x:r8}(U:fN w T o b sb lb h c su)(g:Gx (λq=>q=lb) w T w' T')(L:tS w' T' o lb x):Gx (SO T o [262]) w T w' T'/\fN w' T' o b sb lb h c {su with lb:=x}:=by
 obtain⟨vs,d,_⟩:=U.l;have a:Gx (SO T o [262]) w T w' T':=SO.one d (by simp) g;exact⟨a,a.off b _ U.n (SO.un U.n (.inr dC)),U.s.gx a (U.s.un dC),L⟩
structure qS(su:lC):Prop where
 s:su.st.length<=100000
 l:su.lb.few
theorem ready_len:∀(f:Nat) (x:r8) (now:Int) (d:List Int),x.l.length=3->(eY f x now d).1.length+((eY f x now d).2.l.getD 0 []).length+((eY f x now d).2.l.getD 1 []).length+((eY f x now d).2.l.getD 2 []).length=d.length+(x.l.getD 0 []).length+(x.l.getD 1 []).length+(x.l.getD 2 []).length
 |0,x,now,d,_=>rfl
 |f+1,x,now,d,e=>by
  rw[eY];cases g:sc x now with
  |false=>rfl
  |true=>
   obtain⟨k,i,j,m⟩:=open_full g;simp only[if_true];rw[ready_len f _ now _ (by simp only[cE];exact e),i,cj];obtain⟨tag,l,last⟩:=x;simp only at e⊢;match l,e with
   | [a,b,c],_=>
    have:k=0\/k=1\/k=2:=dB;rcases this with rfl|rfl|rfl<;>simp only[List.set_cons_zero,List.set_cons_succ,List.getD_cons_zero,List.getD_cons_succ,cY,cq]<;>omega
theorem c_SuReady(R:Rel w T)(U:fN w T o b sb lb h c su)(O:qS su){now:Int}(d:0<=now/\now<=4611686018427387904):aa prog 202 [ptr b,bN now] w λv w'=>∃T',Gx (SO T o suT) w T w' T'/\fN w' T' o b sb lb h c (fI su now):=by
 apply F202_ok;obtain⟨f0,f1,q⟩:=pU R U;simp only[F202,ptr,ae,ac,fa_215_2,ld_212,q];refine(c_Ready d R U.l O.l).mono ?_;rintro v w1 ⟨T1,p,f,r⟩;obtain⟨f,j⟩:=U.m7 f r;obtain⟨_,m,_⟩:=pU f.rel j;simp only[ptr,ac,nx,tD,m];have g:=ready_len 4 su.lb now [] (by obtain⟨_,_,_,a2,_⟩:=U.l;exact a2.l);have i:=O.l;have t:=O.s;unfold r8.few at i;simp only[cY]at g;refine(c_StGive f.rel j.s p (by simp only;omega)).mono ?_;rintro _ w2 ⟨T2,n,u⟩;obtain⟨n,x⟩:=j.setS n u;simp only[kj p,ac];refine⟨T2,SO.then (f.mono λk ⟨e,cs,a,b⟩=>⟨e,cs,a,?_⟩) n dC,x⟩;rw[db.1 b];decide
theorem c_SuRetire(R:Rel w T)(U:fN w T o b sb lb h c su)(O:qS su)(tag:Int)(m:SlX (λq=>q=lb) w T v2 l2)(n:l2.length<=100000):aa prog 198 [ptr b,bN tag,v2] w λv w'=>∃T',Gx (SO T o suT) w T w' T'/\fN w' T' o b sb lb h c (nV su tag l2):=by
 apply F198_ok;obtain⟨f0,f1,p⟩:=pU R U;simp only[F198,ptr,ae,ac,fa_215_2,ld_212,p];refine(c_LbRetire R U.l O.l m n tag).mono ?_;rintro v w1 ⟨u,T1,rfl,r,d,t⟩;obtain⟨d,g⟩:=U.m7 d t;obtain⟨_,i,_⟩:=pU d.rel g;simp only[kG,kH,ptr,ac,nx,tD,i];have x:=O.s;have y:(eH su.lb tag l2).1.length<=200000:=by
  have f:=O.l;unfold r8.few at f;unfold eH;split
  ·simp
  ·rename_i C;split
   ·have:=tmod3 (tag:=tag) dB;generalize (tag%3).toNat=k at*;have z:k=0\/k=1\/k=2:=dB;rcases z with rfl|rfl|rfl<;>simp only<;>omega
   ·simp
 refine(c_StGive d.rel g.s r (by simp only;omega)).mono ?_;rintro _ w2 ⟨T2,j,A⟩;obtain⟨j,B⟩:=g.setS j A;refine⟨T2,SO.then (d.mono λk ⟨e,cs,a,b⟩=>⟨e,cs,a,?_⟩) j dC,B⟩;rw[db.1 b];decide
def giA(q:Nat)(v:Value)(d:Bool):Array Value:= #[ptr q,v,.bool d]
def giN(o q:Nat)(v:Value)(d:Bool):Nod:= .st o 282 ((giA q v d).toList.map fF.v)
def GiR(w:World)(T:dH)(o g:Nat)(h:Hm)(x:GiV):Prop:=∃q v,T g=some (giN o q v x.done)/\PuR w T o q h.pb x.p/\kL w T v x.l
variable{gb:Nat}{x:GiV}
theorem GiR.gx{S:Nat->Prop}(G:GiR w T o gb h x)(g:Gx S w T w' T')(b:¬S gb)(c:∀q cs,T q=some (.st o 293 cs)->¬S q):GiR w' T' o gb h x:=by
 obtain⟨q,v,hT,P,L⟩:=G;have d:=P;obtain⟨A,k,a,_⟩:=P;exact⟨q,v,g.off gb _ hT b,d.gx g (c q _ a),L.gx g⟩
theorem GiR.aF(G:GiR w T o gb h x)(a:ad [] w w'):GiR w' T o gb h x:=by
 obtain⟨q,v,hT,P,L⟩:=G;exact⟨q,v,hT,P.aF a,L.aF a⟩
theorem c_give(R:Rel w T)(H:dG T h c m)(U:fN w T o b sb lb h c su)(r:kL w T v l)(s:l.length<=100000):aa prog 222 [ptr b,v] w λu w'=>∃gb T',u=ptr gb/\Gx (λ_=>False) w T w' T'/\GiR w' T' o gb h (ir l):=by
 apply F222_ok;obtain⟨f0,f1,F⟩:=pU R U;have t:an (hp w h.wb) (0+7)=some (ptr h.pb):=by rw[R.kK H.wT];rfl
 obtain⟨A,k,rfl,x,L⟩:=r;simp only[F222,ptr,ae,ac,jb,ru,fW,lU,f0,t];refine(c_Push (sb:=h.pb) (k:=k) R L s o).mono ?_;rintro _ w1 ⟨q,T1,rfl,_,G,a,y⟩;have z:kL w1 T1 (.slice A l.length k) l:=⟨A,k,rfl,x,L.gx a⟩
 refine sU z dB λI w2 i j=>?_;have B:=a.rel.aF j;have C:=kL.own a.rel i (cy _);have D:(((l.length:Nat):Int)==0)=decide (l.length=0):=by
  by_cases n:l.length=0
  ·rw[n];rfl
  ·rw[aW dB,bZ n]
 obtain⟨e,f,E,_⟩:=C;subst E;have g:ai prog (Instr.build 282 #[(0,ptr q),(1,.slice e l.length f),(2,.bool (decide (l.length=0)))])=some (.agg (giA q (.slice e l.length f) (decide (l.length=0)))):=bd_282_0_1_2;simp only[aQ,zS,D,g,ak,aq];have p:=Gx.pR (S:=λ_=>False) B o 282 (giA q (.slice e l.length f) (decide (l.length=0))).toList;have d:=(Gx.bL (S:=λ_=>False) a.rel j).trans p;exact⟨w2.heap.size,_,rfl,a.trans d,q,.slice e l.length f,ax,y.gx d (λh=>h),(kL.own a.rel i (cy _)).gx p⟩
theorem c_Spill(N:gG c)(R:Rel w T)(H:dG T h c m)(i:o≠0)(U:fN w T o b sb lb h c su)(O:qS su):aa prog 200 [ptr b] w λu w'=>∃gb T',u=ptr gb/\Gx (SO T o suT) w T w' T'/\fN w' T' o b sb lb h c (fg c.2.2.2.2.1 su).2/\GiR w' T' o gb h (ir (fg c.2.2.2.2.1 su).1):=by
 apply F200_ok;obtain⟨f0,f1,p⟩:=pU R U;have q:=O.s;simp only[F200,ptr,ae,ac,nx,tD,f1];refine(c_StOver R U.s dB N.b5).mono ?_;rintro v w1 ⟨T1,j,d,l⟩;obtain⟨d,f⟩:=U.setS d l;refine(c_give d.rel (H.so d i) f j (by rw[dt];omega)).mono ?_;rintro _ w2 ⟨gb,T2,rfl,g,n⟩;exact⟨gb,T2,rfl,SO.then (d.mono λk ⟨e,cs,a,b⟩=>⟨e,cs,a,by rw[db.1 b];decide⟩) (SO.no (es:=suT) g) dC,f.no g,n⟩
theorem c_SuAll(R:Rel w T)(H:dG T h c m)(i:o≠0)(U:fN w T o b sb lb h c su)(j:su.st.length<=100000):aa prog 203 [ptr b] w λu w'=>∃gb T',u=ptr gb/\Gx (SO T o suT) w T w' T'/\fN w' T' o b sb lb h c (m0 su).2/\GiR w' T' o gb h (ir (m0 su).1):=by
 apply F203_ok;obtain⟨f0,f1,q⟩:=pU R U;simp only[F203,ptr,ae,ac,nx,tD,f1];refine(c_StAll R U.s).mono ?_;rintro v w1 ⟨T1,l,d,n⟩;obtain⟨d,f⟩:=U.setS d n;refine(c_give d.rel (H.so d i) f l j).mono ?_;rintro _ w2 ⟨gb,T2,rfl,g,p⟩;exact⟨gb,T2,rfl,SO.then (d.mono λk ⟨e,cs,a,b⟩=>⟨e,cs,a,by rw[db.1 b];decide⟩) (SO.no (es:=suT) g) dC,f.no g,p⟩
theorem c_GiStep(R:Rel w T)(H:dG T h c m)(l:o≠0)(K:StkOk (bB c) m)(G:GiR w T o gb h x)(O:s9 (bB c) x.p):aa prog 190 [ptr gb] w λv w'=>∃T',Gx (SM h T o [282,293]) w T w' T'/\dG T' h c (cO c m x).1/\GiR w' T' o gb h (cO c m x).2:=by
 apply F190_ok;have y:=G;obtain⟨q,v,hT,P,L⟩:=G;have hb:hp w gb=some (.cells (giA q v x.done) 282):=R.kK hT;have f0:an (hp w gb) (0+0)=some (ptr q):=by rw[hb];rfl
 have g:an (hp w gb) (0+2)=some (.bool x.done):=by rw[hb];rfl
 cases i:x.done with
 |true=>
  rw[i]at g;simp only[F190,ptr,ae,mG,az,g,zS];rw[cO,bU i];exact⟨T,Gx.refl R,H,y⟩
 |false=>
  rw[i]at g;simp only[F190,ptr,ae,fa_282_0,mG,az,ld_241,f0,g,zS];refine(c_PuStep R H l H.pT K P O).mono ?_;rintro _ w1 ⟨T1,b,z,t⟩;obtain⟨A,k,u,_⟩:=P;have a:=b.off gb _ hT (λhk=>by
   rcases hk with hk|hk
   ·exact H.s8 hT l hk
   ·exact ay hT u dC hk)
  have b:Gx (SM h T o [282,293]) w T w1 T1:=SM.two u dC b;have d:hp w1 gb=some (.cells (giA q v x.done) 282):=b.rel.kK a;have n:an (hp w1 gb) (0+0)=some (ptr q):=by rw[d];rfl
  have r:=t;obtain⟨B,k1,f,C⟩:=t;obtain⟨_,_,_,_,_,p4⟩:=pu_f b.rel f;simp only[ptr,ae,mH,az,n,p4,zS];rw[st_4 (o:=0+2) rfl rfl (by rw[d,bq];exact cr (by show 0+2+1<=3;omega)),d,aB,au];have j:=Gx.putv b.rel a (giA q v (eQ (bB c) m x.p).2.done).toList;have s:Gx (SM h T1 o [282,293]) w1 T1 _ _:=SO.toM (SO.one (es:= [282]) a (by simp) j) dC;have e:cO c m x=((eQ (bB c) m x.p).1,{x with p:=(eQ (bB c) m x.p).2,done:=(eQ (bB c) m x.p).2.done}):=by rw[cO,bV (by rw[i];simp)]
  rw[e];exact⟨_,SM.then b s dC,z.bP j a l,q,v,ax,r.gx j (ay f a dC),(L.gx b).gx j⟩
end
section
variable{w w1 w2 w':World}{T T1 T2 T':dH}{h:Hm}{c:cx}{m m':bd}{o o' b sb lb k tb:Nat}{es es':List TypeId}{su:lC}{t:TkV}
def pV(b:Nat)(at' chunk seen:Int)(pv:Value)(d:Bool):Array Value:= #[ptr b,bN at',bN chunk,bN seen,pv,.bool d]
def tkN(o b:Nat)(at' chunk seen:Int)(pv:Value)(d:Bool):Nod:= .st o 279 ((pV b at' chunk seen pv d).toList.map fF.v)
theorem tkA_1{a ch s x:Int}{pv:Value}{d:Bool}:(pV b a ch s pv d).setIfInBounds (0+1) (bN x)=pV b x ch s pv d:=rfl
theorem tkA_2{a ch s x:Int}{pv:Value}{d:Bool}:(pV b a ch s pv d).setIfInBounds (0+2) (bN x)=pV b a x s pv d:=rfl
theorem tkA_3{a ch s x:Int}{pv:Value}{d:Bool}:(pV b a ch s pv d).setIfInBounds (0+3) (bN x)=pV b a ch x pv d:=rfl
theorem tkA_4{a ch s:Int}{pv x:Value}{d:Bool}:(pV b a ch s pv d).setIfInBounds (0+4) x=pV b a ch s x d:=rfl
theorem tkA_5{a ch s:Int}{pv:Value}{d x:Bool}:(pV b a ch s pv d).setIfInBounds (0+5) (.bool x)=pV b a ch s pv x:=rfl
theorem tk_ok{a ch s:Int}{pv:Value}{d:Bool}{e:TypeId}{j:Nat}(hb:hp w tb=some (.cells (pV b a ch s pv d) e))(c:j<6):pY (hp w tb) (0+j+1)=true:=by
 rw[hb,bq];exact cr (by show 0+j+1<=6;omega)
theorem ta{a ch s:Int}{pv:Value}{d:Bool}(R:Rel w T)(hT:T tb=some (tkN o b a ch s pv d)):hp w tb=some (.cells (pV b a ch s pv d) 279)/\an (hp w tb) (0+0)=some (ptr b)/\an (hp w tb) (0+1)=some (bN a)/\an (hp w tb) (0+2)=some (bN ch)/\an (hp w tb) (0+3)=some (bN s)/\an (hp w tb) (0+4)=some pv/\an (hp w tb) (0+5)=some (.bool d):=by
 have hb:hp w tb=some (.cells (pV b a ch s pv d) 279):=R.kK hT;rw[hb];exact⟨rfl,rfl,rfl,rfl,rfl,rfl,rfl⟩
def TkR(T:dH)(o tb b:Nat)(h:Hm)(t:TkV):Prop:=∃x,T tb=some (tkN o b t.at' t.chunk t.seen (.pointer x) t.done)/\(t.at'≠0->t.done=false->∃q,x=some ⟨q,0,none⟩/\T q=some (poN o h.pb t.p))
def tkT:List TypeId:= [258,262,279,270]
theorem TkR.gx{S:Nat->Prop}(K:TkR T o tb b h t)(g:Gx S w T w' T')(f:∀k e cs,T k=some (.st o e cs)->e=279\/e=270->¬S k):TkR T' o tb b h t:=by
 obtain⟨x,hT,c⟩:=K;refine⟨x,g.off tb _ hT (f _ _ _ hT (.inl rfl)),λa d=>?_⟩;obtain⟨q,e,c⟩:=c a d;exact⟨q,e,g.off q _ c (f _ _ _ c (.inr rfl))⟩
theorem c_kept(R:Rel w T)(A:o≠0)(U:fN w T o b sb lb h c su)(p:su.st.length<=500000){x:Option Addr}(hT:T tb=some (tkN o b t.at' t.chunk t.seen (.pointer x) t.done)):
  aa prog 217 [ptr tb] w λv w'=>∃T',Gx (SO T o [258,279]) w T w' T'/\fN w' T' o b sb lb h c (eE su t).1/\T' tb=some (tkN o b (eE su t).2.at' (eE su t).2.chunk (eE su t).2.seen (.pointer x) (eE su t).2.done):=by
 apply F217_ok;obtain⟨u0,u1,u2⟩:=pU R U;obtain⟨hb,f0,f1,B,C,D,E⟩:=ta R hT;simp only[F217,ptr,ae,ac,fa_279_0,nx,jD,tD,f0,u1];refine(c_StTake R U.s p).mono ?_;rintro _ w1 ⟨rfl,T1,f,u⟩;obtain⟨f,i⟩:=U.setS f u;have d:=f.off tb _ hT (SO.un hT (.inr dC));have f:Gx (SO T o [258,279]) w T w1 T1:=f.mono λk ⟨e,cs,a,b⟩=>⟨e,cs,a,by rw[db.1 b];decide⟩
 by_cases j:su.st.length=0
 ·have e:eE su t=(su,t):=by rw[eE,bU j]
  rw[e];rw[bZ (by omega:¬su.st.length≠0)];simp only[kG,kH,zS];refine⟨T1,f,?_,d⟩;have y:su.st.take (su.st.length-1)=su.st:=by rw[List.length_eq_zero_iff.1 j];rfl
  rw[y]at i;exact i
 ·have e:eE su t=({su with st:=su.st.take (su.st.length-1)},{t with chunk:=su.st.getD (su.st.length-1) 0,done:=true}):=by rw[eE,bV j]
  rw[e,bV j,cr j];obtain⟨g,_⟩:=ta f.rel d;simp only[kG,kH,zS,fa_279_2,jQ];rw[gB (o:=0+2) rfl rfl (tk_ok g dB),g,aB,au,tkA_2];have m:hp (put w1 tb (pV b t.at' (su.st.getD (su.st.length-1) 0) t.seen (.pointer x) t.done) 279) tb=some (.cells (pV b t.at' (su.st.getD (su.st.length-1) 0) t.seen (.pointer x) t.done) 279):=ar (aD g) _ _;rw[st_4 (o:=0+5) rfl rfl (tk_ok m dB),m,aB,au,tkA_5,m6];have r:=Gx.putv f.rel d (pV b t.at' (su.st.getD (su.st.length-1) 0) t.seen (.pointer x) true).toList;have q:=SO.one (es:= [258,279]) d dC r;exact⟨_,SO.then f q (λ_ h=>h),i.gx r (ay i.n d dC) (by obtain⟨_,p,_⟩:=i.s;exact ay p d dC) (by obtain⟨_,z,_⟩:=i.l;exact ay z d dC),ax⟩
theorem c_tkPop(N:gG c)(R:Rel w T)(H:dG T h c m)(n:o≠0)(U:fN w T o b sb lb h c su){x:Option Addr}(hT:T tb=some (tkN o b t.at' t.chunk t.seen (.pointer x) t.done)):
  aa prog 218 [ptr tb] w λv w'=>∃T',Gx (SO T o [279]) w T w' T'/\TkR T' o tb b h (tkPop c t):=by
 apply F218_ok;obtain⟨u0,u1,u2⟩:=pU R U;obtain⟨hb,f0,f1,p,r,s,u⟩:=ta R hT;have k:an (hp w h.wb) (0+7)=some (ptr h.pb):=by rw[R.kK H.wT];rfl
 have l:an (hp w h.wb) (0+0+5)=some (bN c.2.2.2.2.2):=by rw[R.kK H.wT];rfl
 have i:ad [] w w.drew:=(ad.refl [] w).drew;simp only[F218,ptr,ae,zS,fa_279_0,jb,bJ,ru,fa_25_5,jD,fW,lU,ag,f0,u0,l,k];refine(c_Pop (sb:=h.pb) (R.aF i) c.2.2.2.2.2 o).mono ?_;rintro _ w1 ⟨q,T1,rfl,y,_,f,d⟩;have f:=(Gx.bL (S:=λ_=>False) R i).trans f;have a:=f.off tb _ hT (λh=>h);obtain⟨e,_⟩:=ta f.rel a;simp only[ptr,ac,fa_279_1,fa_279_4];rw[gB (o:=0+1) rfl rfl (tk_ok e dB),e,aB,au,tkA_1];have g:hp (put w1 tb (pV b 1 t.chunk t.seen (.pointer x) t.done) 279) tb=some (.cells (pV b 1 t.chunk t.seen (.pointer x) t.done) 279):=ar (aD e) _ _;rw[st_229 (o:=0+4) rfl rfl (tk_ok g dB),g,aB,au,tkA_4,m6];have j:=Gx.putv f.rel a (pV b 1 t.chunk t.seen (bS q) t.done).toList;refine⟨_,SO.then (SO.no f) (SO.one (es:= [279]) a dC j) (λ_ h=>h),some ⟨q,0,none⟩,ax,λ_ _=>⟨q,rfl,?_⟩⟩;exact j.off q _ d (ay d a dC)
theorem kept_st(s:lC)(t:TkV):(eE s t).1.lb=s.lb/\(eE s t).1.st.length<=s.st.length/\(eE s t).2.at'=t.at':=by
 unfold eE;split
 ·exact⟨rfl,cy _,rfl⟩
 ·exact⟨rfl,by simp only[dt];omega,rfl⟩
theorem few_at{x:r8}(a:x.few)(b:x.l.length=3)(k:Nat):(x.l.getD k []).length<=500000:=by
 unfold r8.few at a;rcases dh k 3 with hk|hk
 ·have:k=0\/k=1\/k=2:=dB;rcases this with rfl|rfl|rfl<;>omega
 ·rw[cu,List.getElem?_eq_none dB];simp
theorem c_Take(N:gG c)(R:Rel w T)(H:dG T h c m)(z:o≠0)(U:fN w T o b sb lb h c su)(O:qS su):
  aa prog 216 [ptr b] w λv w'=>∃tb T',v=ptr tb/\Gx (SO T o [258,279]) w T w' T'/\fN w' T' o b sb lb h c (jU c su).1/\TkR T' o tb b h (jU c su).2:=by
 apply F216_ok;have A:ai prog (Instr.build 279 #[(0,ptr b),(2,bN (-1)),(3,bN (-1))])=some (.agg (pV b 0 (-1) (-1) (.pointer none) false)):=bd_279_0_2_3;simp only[F216,A,ak,aq,ac];have g:=Gx.pR (S:=λ_=>False) R o 279 (pV b 0 (-1) (-1) (.pointer none) false).toList;have B:ig T w.heap.size (.st o 279 ((pV b 0 (-1) (-1) (.pointer none) false).toList.map fF.v)) w.heap.size=some (tkN o b tk0.at' tk0.chunk tk0.seen (.pointer none) tk0.done):=ax;have C:=U.no g;have D:T w.heap.size=none:=R.fresh (cy _);have u:∀k L,T k=some L->k≠w.heap.size:=λk L i e=>by rw[e,D]at i;cases i
 generalize ig T w.heap.size (.st o 279 ((pV b 0 (-1) (-1) (.pointer none) false).toList.map fF.v))=T0 at*;have g:Gx (λ_=>False) w T (w.alloc (.cells (pV b 0 (-1) (-1) (.pointer none) false) 279)) T0:=g;have C:fN (w.alloc (.cells (pV b 0 (-1) (-1) (.pointer none) false) 279)) T0 o b sb lb h c su:=C;generalize w.alloc (.cells (pV b 0 (-1) (-1) (.pointer none) false) 279)=w0 at*;generalize V:w.heap.size=tb at*;have W:=H.no g;refine(c_kept (t:=tk0) g.rel z C (by have:=O.s;omega) B).mono ?_;rintro _ w1 ⟨T1,f,j,d⟩;have n:Gx (SO T o [258,279]) w T w1 T1:=SO.then (SO.no g) f (λ_ h=>h)
 have X:=W.so f z;have i:=kept_st su tk0;obtain⟨E,_,_,_,_,_,M⟩:=ta f.rel d;have y:jU c su=if(eE su tk0).2.done=false/\jh (eE su tk0).1.lb=0 then((eE su tk0).1,tkPop c (eE su tk0).2)else eE su tk0:=rfl
 have a0:(eE su tk0).2.at'=0:=i.2.2;generalize eE su tk0=r at*;obtain⟨a,F⟩:=r;simp only at i j d E M y a0;have done:jU c su=(a,F)->P216_0 (ptr tb) w1 λv w'=>∃tb T',v=ptr tb/\Gx (SO T o [258,279]) w T w' T'/\fN w' T' o b sb lb h c (jU c su).1/\TkR T' o tb b h (jU c su).2:=λe=>by
  apply L216_0_ok;rw[e];exact⟨tb,T1,rfl,n,j,none,d,λh=>absurd a0 h⟩
 simp only[ptr,ae,zS,jQ,az,M];cases P:F.done with
 |true=>
  simp only[zS];exact done (by rw[y,bV (by rw[P];simp)])
 |false=>
  obtain⟨_,_,u2⟩:=pU f.rel j;simp only[zS,fa_215_2,ld_212,u2];have G:a.lb.l.length=3:=by obtain⟨_,_,_,a2,_⟩:=j.l;exact a2.l
  have p:=few_at (x:=a.lb) (by rw[i.1];exact O.l) G;refine(c_LbLen f.rel j.l p).mono ?_;rintro _ w2 ⟨rfl,I⟩;have q:=n.trans (Gx.bL f.rel I);have Y:=f.rel.aF I;have J:=j.aF I;by_cases u:jh a.lb=0
  ·have K:(((jh a.lb:Nat):Int)==0)=true:=by rw[u];rfl
   simp only[zS,K];refine(c_tkPop (t:=F) N Y X z J d).mono ?_;rintro _ w3 ⟨Z,Q,K3⟩;apply L216_0_ok;rw[y,bU ⟨P,u⟩];exact⟨tb,Z,rfl,SO.then q Q dC,J.so Q (.inr dC),K3⟩
  ·have K:(((jh a.lb:Nat):Int)==0)=false:=aW dB;simp only[zS,K];apply L216_0_ok;rw[y,bV (λhh=>u hh.2)];exact⟨tb,T1,rfl,q,J,none,d,λh=>absurd a0 h⟩
theorem cut_rng{x:Int}(h:sR x):0<=fE x/\fE x<=4611686018427387904:=by unfold fE;split<;>omega
structure TkOk(c:cx)(t:TkV):Prop where
 a:t.at'<=1
 p:t.at'≠0->t.done=false->PoOk (bB c) t.p
theorem poStep_n{s:iF}{m:bd}{p:PoV}(O:PoOk s p):(dK s m p).2.l.length<=p.l.length+1:=by
 unfold dK;repeat' split
 all_goals simp
theorem c_TkStep(N:gG c)(R:Rel w T)(H:dG T h c m)(z:o≠0)(K:StkOk (bB c) m)(c1:2<m.length)(U:fN w T o b sb lb h c su)(O:qS su)(Kt:TkR T o tb b h t)(Ot:TkOk c t):
  aa prog 187 [ptr tb] w λv w'=>∃T',Gx (SM h T o tkT) w T w' T'/\dG T' h c (eV c m su t).1/\fN w' T' o b sb lb h c (eV c m su t).2.1/\TkR T' o tb b h (eV c m su t).2.2:=by
 apply F187_ok;have c3:=Kt;obtain⟨x,hT,hq⟩:=Kt;obtain⟨u0,u1,u2⟩:=pU R U;obtain⟨hb,f0,f1,f2,f3,f4,f5⟩:=ta R hT;cases hd:t.done with
 |true=>
  rw[hd]at f5;simp only[F187,ptr,ae,jQ,az,f5,zS];rw[eV,bU hd];exact⟨T,Gx.refl R,H,U,c3⟩
 |false=>
 rw[hd]at f5;have C:eV c m su t=if t.at'=0 then
   (m,if(eE (fI su (fE (cf m 2))) {t with seen:=fE (cf m 2)}).2.done then eE (fI su (fE (cf m 2))) {t with seen:=fE (cf m 2)}else((eE (fI su (fE (cf m 2))) {t with seen:=fE (cf m 2)}).1,tkPop c (eE (fI su (fE (cf m 2))) {t with seen:=fE (cf m 2)}).2))
  else if(dK (bB c) m t.p).2.done=false then((dK (bB c) m t.p).1,su,{t with p:=(dK (bB c) m t.p).2})
  else if(dS (dK (bB c) m t.p).2).length=0 then((dK (bB c) m t.p).1,su,{t with p:=(dK (bB c) m t.p).2,done:=true})
  else((dK (bB c) m t.p).1,qA su ((dS (dK (bB c) m t.p).2).drop 1),{t with p:=(dK (bB c) m t.p).2,chunk:=(dS (dK (bB c) m t.p).2).getD 0 0,done:=true}):=by rw[eV,bV (by rw[hd];simp)]
 by_cases a0:t.at'=0
 ·rw[bU a0]at C;have q0:((t.at':Int)==0)=true:=by rw[a0];rfl
  have w6:an (hp w h.wb) (0+6)=some (ptr h.mb):=by rw[R.kK H.wT];rfl
  simp only[F187,ptr,ae,fa_279_0,fa_279_1,jQ,jb,eZ,az,ag,jD,fW,bx,f0,f1,f5,q0,u0,w6,zS];refine(iR (a:=2) R H c1).mono ?_;rintro _ w1 ⟨rfl,_,T1,f,H1⟩;have U1:=U.sm (o':=o) (es:= []) H (SM.mem f) z (.inr dC);have d:=f.off tb _ hT (H.s8 hT z);have f:Gx (SM h T o tkT) w T w1 T1:=SM.mem f;have hu:=iw K.u 2;refine(c_Cut5 hu).step ?_;generalize b1:fE (cf m 2)=now at*;have b2:0<=now/\now<=4611686018427387904:=by rw[<- b1];exact cut_rng hu
  obtain⟨b3,_⟩:=ta f.rel d;simp only[ac,fa_279_3];rw[gB (o:=0+3) rfl rfl (tk_ok b3 dB),b3,aB,au,tkA_3];have W:=Gx.putv f.rel d (pV b t.at' t.chunk now (.pointer x) t.done).toList;have Y:ig T1 tb (.st o 279 ((pV b t.at' t.chunk now (.pointer x) t.done).toList.map fF.v)) tb=some (tkN o b t.at' t.chunk now (.pointer x) t.done):=ax;have H2:=H1.bP W d z;generalize ig T1 tb (.st o 279 ((pV b t.at' t.chunk now (.pointer x) t.done).toList.map fF.v))=T2 at*;have W:Gx (λq=>q=tb) w1 T1 (put w1 tb (pV b t.at' t.chunk now (.pointer x) t.done) 279) T2:=W;generalize put w1 tb (pV b t.at' t.chunk now (.pointer x) t.done) 279=w2 at*;have c4:Gx (SM h T1 o tkT) w1 T1 w2 T2:=SO.toM (SO.one (es:= [279]) d dC W) dC;have U2:=U1.so (SO.one (es:= [279]) d dC W) (.inr dC);have J:=SM.then f c4 (λ_ h=>h)
  have L:ad [] w2 w2.drew:=(ad.refl [] w2).drew;obtain⟨_,p0,_,_,p3,_,_⟩:=ta W.rel Y;simp only[ptr,zS,ag,p0,p3];refine(c_SuReady (W.rel.aF L) (U2.aF L) O b2).mono ?_;rintro _ I ⟨E,i,M⟩;have Z:=(Gx.bL (S:=SO T2 o suT) W.rel L).trans i;have G:=SM.then J (SO.toM (h:=h) (es':=tkT) Z dC) (λ_ h=>h)
  have H3:=H2.so Z z;have g:=Z.off tb _ Y (SO.un Y (.inr dC));have b4:(fI su now).st.length<=500000:=by
   have hl:=ready_len 4 su.lb now [] (by obtain⟨_,_,_,a2,_⟩:=U.l;exact a2.l);have o1:=O.s;have o2:=O.l;unfold r8.few at o2;simp only[cY]at hl;unfold fI;simp only[cq];omega
  refine(c_kept (t:={t with seen:=now}) i.rel z M b4 g).mono ?_;rintro _ w4 ⟨T4,F,U4,D⟩;have H4:=H3.so F z;have Q:=SM.then G (SO.toM (h:=h) (es':=tkT) F dC) (λ_ h=>h)
  have hk:=kept_st (fI su now) {t with seen:=now};generalize eE (fI su now) {t with seen:=now}=r at*;obtain⟨c9,t1⟩:=r;simp only at U4 D hk C;obtain⟨_,_,_,_,_,_,p5⟩:=ta F.rel D;simp only[zS,p5];cases j:t1.done with
  |true=>
   simp only[zS];apply L187_0_ok;rw[C,bU j];exact⟨T4,Q,H4,U4,x,D,λ_ h=>by rw[j]at h;cases h⟩
  |false=>
   simp only[zS];refine(c_tkPop (t:=t1) N F.rel H4 z U4 D).mono ?_;rintro _ w5 ⟨T5,g5,K5⟩;apply L187_0_ok;rw[C,bV (by rw[j];simp)];exact⟨T5,SM.then Q (SO.toM (h:=h) (es':=tkT) g5 dC) (λ_ h=>h),H4.so g5 z,U4.so g5 (.inr dC),K5⟩
 ·rw[bV a0]at C;have q0:((t.at':Int)==0)=false:=aW dB;obtain⟨q,rfl,V⟩:=hq a0 hd;have f4:an (hp w tb) (0+4)=some (bS q):=f4;simp only[F187,ptr,ae,fa_279_1,fa_279_4,jQ,az,ag,ld_229,f1,f4,f5,q0,zS];have Op:=Ot.p a0 hd;refine(c_PoStep R H z H.pT K V Op).mono ?_;rintro _ w1 ⟨T1,f,H1,B⟩;have d:=f.off tb _ hT (λhk=>by
   rcases hk with hk|hk
   ·exact H.s8 hT z hk
   ·exact ay hT V dC hk)
  have U1:=U.sm (o':=o) (es:= [270]) H (SM.two V dC f) z (.inr dC);have f:Gx (SM h T o tkT) w T w1 T1:=SM.two V dC f;have c5:=poStep_n (m:=m) Op;have d1:=Op.n;generalize dK (bB c) m t.p=r at*;obtain⟨m1,p1⟩:=r;simp only at H1 B C c5⊢;obtain⟨_,_,_,_,_,p4,p5⟩:=ta f.rel d;obtain⟨A1,k1,F1⟩:=po_f f.rel B;have p4:an (hp w1 tb) (0+4)=some (bS q):=p4;simp only[ae,jP,az,p4,F1.f6,zS];cases j:p1.done with
  |false=>
   rw[bU j]at C;simp only[zS];rw[C];exact⟨T1,f,H1,U1,some ⟨q,0,none⟩,d,λ_ _=>⟨q,rfl,B⟩⟩
  |true=>
  rw[bV (by rw[j];simp)]at C;simp only[zS];refine(c_Got f.rel B dB).mono ?_;rintro _ w2 ⟨A,kk,rfl,d2,L2,c2⟩;have R2:=f.rel.aF c2;have J:=f.trans (Gx.bL f.rel c2);have U2:=U1.aF c2;have d3:(dS p1).length<=11000:=by rw[show dS p1=p1.l by rw[dS,j];rfl];omega
  have fin:∀(I:World) (E:dH) (a7:lC) (ch:Int),Gx (SM h T o tkT) w T I E->dG E h c m1->fN I E o b sb lb h c a7->E tb=some (tkN o b t.at' ch t.seen (bS q) t.done)->eV c m su t=(m1,a7,{t with p:=p1,chunk:=ch,done:=true})->
    P187_1 (bS tb) I λv w'=>∃T',Gx (SM h T o tkT) w T w' T'/\dG T' h c (eV c m su t).1/\fN w' T' o b sb lb h c (eV c m su t).2.1/\TkR T' o tb b h (eV c m su t).2.2:=by
   intro I E a7 ch i H3 M g e;apply L187_1_ok;obtain⟨b5,_⟩:=ta i.rel g;simp only[L187_1,ae,ac,jQ];rw[st_4 (o:=0+5) rfl rfl (tk_ok b5 dB),b5,aB,au,tkA_5];have F:=Gx.putv i.rel g (pV b t.at' ch t.seen (bS q) true).toList;have a8:=SO.one (es:= [279]) g dC F;rw[e];exact⟨_,SM.then i (SO.toM (h:=h) (es':=tkT) a8 dC) (λ_ h=>h),H3.so a8 z,M.so a8 (.inr dC),some ⟨q,0,none⟩,ax,λ_ h=>by cases h⟩
  by_cases hz:(dS p1).length=0
  ·rw[bU hz]at C;have e2:¬(0:Int)<((dS p1).length:Int):=dB;simp only[aQ,zS,e2];exact fin w2 T1 su t.chunk J H1 U2 d (by rw[C])
  ·rw[bV hz]at C;have e2:(0:Int)<((dS p1).length:Int):=dB;obtain⟨y,hy⟩:∃y,(dS p1)[0]? =some y:=⟨_,bX dB⟩
   have c6:(dS p1).getD 0 0=y:=by rw[cu,hy];rfl
   obtain⟨qi,fi,iq,lq,_⟩:=L2.int hy kk;have iq:ai prog (Instr.indexAt 22 (.slice A (dS p1).length kk) (bN 0))=some (.pointer (some ⟨qi,fi,none⟩)):=iq;obtain⟨b6,_⟩:=ta R2 d;simp only[aQ,zS,e2,iq,lq,ag,fa_279_2];rw[gB (o:=0+2) rfl rfl (tk_ok b6 dB),b6,aB,au,tkA_2];have i:=Gx.putv R2 d (pV b t.at' y t.seen (bS q) t.done).toList;have g:ig T1 tb (.st o 279 ((pV b t.at' y t.seen (bS q) t.done).toList.map fF.v)) tb=some (tkN o b t.at' y t.seen (bS q) t.done):=ax;have a9:=SO.one (es:= [279]) d dC i;have L3:=L2.gx i;have H3:=H1.so a9 z;have M:=U2.so a9 (.inr dC);have G:=SM.then J (SO.toM (h:=h) (es':=tkT) a9 dC) (λ_ h=>h)
   generalize ig T1 tb (.st o 279 ((pV b t.at' y t.seen (bS q) t.done).toList.map fF.v))=E at*;have i:Gx (λq=>q=tb) w2 T1 (put w2 tb (pV b t.at' y t.seen (bS q) t.done) 279) E:=i;have M:fN (put w2 tb (pV b t.at' y t.seen (bS q) t.done) 279) E o b sb lb h c su:=M;have L3:Lo (put w2 tb (pV b t.at' y t.seen (bS q) t.done) 279) E A (ints (dS p1)):=L3;have G:Gx (SM h T o tkT) w T (put w2 tb (pV b t.at' y t.seen (bS q) t.done) 279) E:=G;generalize put w2 tb (pV b t.at' y t.seen (bS q) t.done) 279=I at*;obtain⟨_,p0,_⟩:=ta i.rel g;obtain⟨_,s1,_⟩:=pU i.rel M;have L:ad [] I I.drew:=(ad.refl [] I).drew;have b7:=tA (P:=prog) (t:=22) (A:=A) (n:=(dS p1).length) (c:=kk) (k:= .i64) (l:=1) underlying22 aE dB dB;rw[show(1:Int).toNat=1 from rfl]at b7;simp only[ptr,ae,zS,fa_279_0,nx,jD,tD,p0,s1,b7];have b8:((dS p1).drop 1).length=(dS p1).length-1:=by rw[List.length_drop]
   have e3:ints ((dS p1).drop 1)=(ints (dS p1)).drop (1*1):=by simp[ints]
   have L4:kL I.drew E (.slice (if kk=1 then A else A.map (·.add (1*1))) ((dS p1).length-1) (kk-1)) ((dS p1).drop 1):=by
    refine⟨_,_,by rw[b8],dB,by rw[e3];exact(L3.aF L).rd.drop kk 1 1 (λh=>by simp[ints];omega),λp hp c7=>?_⟩;have X:ints (dS p1)≠ []:=λe=>c7 (by rw[e3,e,List.drop_nil]);by_cases b9:kk=1
    ·rw[bU b9]at hp;exact L3.off p hp X
    ·rw[bV b9]at hp;obtain⟨q',c8,rfl⟩:=dc.1 hp;rw[qY];exact L3.off q' c8 X
   have d4:=O.s;refine(c_StGive (i.rel.aF L) (M.aF L).s L4 (by rw[b8];omega)).mono ?_;rintro _ w4 ⟨T4,F,S4⟩;obtain⟨F,U4⟩:=(M.aF L).setS F S4;have Q:=SM.then (G.trans (Gx.bL i.rel L)) (SO.toM (h:=h) (es':=tkT) F dC) (λ_ h=>h)
   have D:=F.off tb _ g (SO.un g (.inr dC));exact fin w4 T4 (qA su ((dS p1).drop 1)) y Q (H3.so F z) U4 D (by rw[C,c6])
end
end Go.Proofs.YtnpflajdbchghaaGreat
