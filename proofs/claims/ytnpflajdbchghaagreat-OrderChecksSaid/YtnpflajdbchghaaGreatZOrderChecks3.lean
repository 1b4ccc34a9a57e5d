/- Parts of the proof of OrderChecks, one behind the other. Conditions: none. -/
import Derived.Laws.World
import Derived.Test.YtnpflajdbchghaaGreatZOrderChecks2
set_option linter.unusedSimpArgs false
set_option linter.unusedVariables false
noncomputable section
namespace Go.Proofs.YtnpflajdbchghaaGreat.Ev
open Go
inductive Plan where
 |leaf (l:List Nat)
 |ask (x y:Nat) (a b:Plan)
 /-- one order, where each call of a function leaves all cells that there are -/
 |ext (l:List Nat)
 /-- one order, where each call of a function leaves all cells but D's, and nothing of D is read -/
 |exd (D:Nat->Prop) (l:List Nat)
def implB(a:List Nat)(asm:List (Nat×Nat)):Nat->Nat->Nat->Bool
 |0,j,i=>(a.getD i 0).testBit j
 |k+1,j,i=>(a.getD i 0).testBit j||asm.any λp=>(Nat.beq j p.1||(a.getD p.1 0).testBit j)&&(Nat.beq p.2 i||implB a asm k p.2 i)
def okPair(ops:Array Oper)(a:List Nat)(b:List (Nat×Nat))(j i:Nat):Bool:=canSwap ops j i||implB a b 4 j i
def okPairX(ops:Array Oper)(a:List Nat)(b:List (Nat×Nat))(j i:Nat):Bool:=q6 ops j i||implB a b 4 j i
def sw(f:Nat->Nat->Bool):List Nat->Bool
 | []=>true
 |x::xs=>xs.all (λy=>f x y)&&sw f xs
def qe(ops:Array Oper)(d:List Nat):Plan->List (Nat×Nat)->Bool
 | .leaf l,c=>(List.range ops.size).isPerm l&&sw (okPair ops d c) l
 | .ext l,c=>(List.range ops.size).isPerm l&&sw (okPairX ops d c) l
 | .exd _ l,c=>(List.range ops.size).isPerm l&&sw (okPairX ops d c) l
 | .ask x y a b,c=> !Nat.beq x y&&Nat.blt x ops.size&&Nat.blt y ops.size&&qe ops d a ((x,y)::c)&&qe ops d b ((y,x)::c)
def evPlan(P:Program)(ent:FuncId->Bool)(n:Nat)(ops:Array Oper):Plan->Env->World->(Env->World->Prop)->Prop
 | .leaf l,ρ,w,K=>qG P ent n ops l ρ w K
 | .ext l,ρ,w,K=>kM none P ent n ops l ρ w K
 | .exd D l,ρ,w,K=>kM (some D) P ent n ops l ρ w K
 | .ask _ _ a b,ρ,w,K=>evPlan P ent n ops a ρ w K/\evPlan P ent n ops b ρ w K
theorem m4{f:Nat->Nat->Bool}:∀{l:List Nat},sw f l=true->∀{j i:Nat}, [j,i].Sublist l->f j i=true
 | [],_,j,i,a=>by cases a
 |x::xs,h,j,i,a=>by
  simp only[sw,cZ,List.all_eq_true]at h;cases a with
  |cons _ b=>exact m4 h.2 b
  |cons_cons _ b=>exact h.1 i (List.singleton_sublist.1 b)
def Asm(σ:List Nat)(p:Nat×Nat):Prop:=∀S rest,σ=S++p.2::rest->p.1∈S
theorem split_unique{y:Nat}:∀{S S' r r':List Nat},(S++y::r).Nodup->S++y::r=S'++y::r'->S=S'
 | [], [],_,_,_,_=>rfl
 | [],s::S',r,r',a,h=>by
  simp only[List.nil_append,List.cons_append,List.cons.injEq]at h;obtain⟨rfl,rfl⟩:=h;simp at a
 |s::S, [],r,r',a,h=>by
  simp only[List.nil_append,List.cons_append,List.cons.injEq]at h;obtain⟨rfl,rfl⟩:=h;simp at a
 |s::S,b::S',r,r',a,h=>by
  simp only[List.cons_append,List.cons.injEq]at h;obtain⟨rfl,h⟩:=h;rw[split_unique (List.nodup_cons.1 a).2 h]
theorem asm_total{σ:List Nat}(f:σ.Nodup){x y:Nat}(g:y∈σ)(e:x≠y):Asm σ (x,y)\/Asm σ (y,x):=by
 refine Classical.byCases .inl λh=> .inr λS' a b=>?_;simp only[Asm,Classical.not_forall]at h;obtain⟨S,rest,c,d⟩:=h;simp only at c d b⊢;refine Classical.byContradiction λi=>?_;have j:y∈a:=by
  have:y∈S'++x::a:=b▸g;simp only[List.mem_append,cV]at this;rcases this with h|h|h
  ·exact absurd h i
  ·exact absurd h.symm e
  ·exact h
 obtain⟨A,B,rfl⟩:=List.append_of_mem j;have k:S++y::rest=(S'++x::A)++y::B:=by rw[<- c,b];simp
 have l:=split_unique (c▸f) k;exact d (by rw[l];simp)
theorem Asm.trans{σ:List Nat}{x y z:Nat}(h:Asm σ (x,y))(c:Asm σ (y,z)):Asm σ (x,z):=by
 intro S rest a;obtain⟨d,e,b⟩:=List.append_of_mem (c S rest a);simp only at b a⊢;subst b;have:=h d (e++z::rest) (by rw[a];simp);simp only at this;simp[this]
theorem asm_anc{ops:Array Oper}{σ:List Nat}(b:Lin ops σ){j i:Nat}(h:((ancT ops).getD i 0).testBit j=true):Asm σ (j,i):=
 λS rest a=>lin_anc b _ S i rest rfl a j h
theorem impl_asm{ops:Array Oper}{σ:List Nat}(d:Lin ops σ){a:List (Nat×Nat)}(b:∀p∈a,Asm σ p):∀(k j i:Nat),implB (ancT ops) a k j i=true->Asm σ (j,i)
 |0,_,_,h=>asm_anc d h
 |k+1,j,i,h=>by
  simp only[implB,Bool.or_eq_true,List.any_eq_true,cZ]at h;rcases h with h|⟨p,hp,h1,h2⟩
  ·exact asm_anc d h
  ·have c:Asm σ (p.1,p.2):=b p hp;have e:Asm σ (j,p.2):=by
    rcases h1 with h1|h1
    ·rw[Nat.eq_of_beq_eq_true h1];exact c
    ·exact(asm_anc d h1).trans c
   rcases h2 with h2|h2
   ·rw[<- Nat.eq_of_beq_eq_true h2];exact e
   ·exact e.trans (impl_asm d b k p.2 i h2)
section
variable{P:Program}{ent:FuncId->Bool}{n:Nat}{ops:Array Oper}
theorem qf(s:EntOk P ent){Q:Exit->Act->World->Prop}{K:Env->World->Prop}(t:∀u a' E,fB n u a'->K u E->Q .normal a' E){σ:List Nat}
  (v:Lin ops σ) (hp:(List.range ops.size).Perm σ) {ρ:Env} {a:Act} {w:World} (z:fB n ρ a):
  ∀(F:Plan) (m:List (Nat×Nat)),qe ops (ancT ops) F m=true->(∀ p∈m,Asm σ p)->evPlan P ent n ops F ρ w K->wpOps P ops Q σ a w
 | .leaf l,m,d,o,h=>by
  simp only[qe,cZ]at d;have f:l.Perm σ:=(List.isPerm_iff.1 d.1).symm.trans hp;refine evSeq_sound s t σ l (λS i rest q j A B=>?_) σ [] l ρ a w rfl f (List.Sublist.refl l) z h;have h1:=m4 d.2 B;have k:σ.Nodup:=hp.nodup_iff.1 List.nodup_range;have g:j∉S:=λg=>by
   rw[q]at k;have:=(List.nodup_append.1 k).2.2 j g j (by simp[A]);exact this rfl
  simp only[okPair,Bool.or_eq_true]at h1;rcases h1 with h1|h1
  ·exact h1
  ·exact absurd (impl_asm v o _ _ _ h1 S rest q) g
 | .ext l,m,d,o,h=>by
  simp only[qe,cZ]at d;have f:l.Perm σ:=(List.isPerm_iff.1 d.1).symm.trans hp;refine qb s t σ l (λS i rest q j A B=>?_) σ [] l ρ a w rfl f (List.Sublist.refl l) z h;have h1:=m4 d.2 B;have k:σ.Nodup:=hp.nodup_iff.1 List.nodup_range;have g:j∉S:=λg=>by
   rw[q]at k;have:=(List.nodup_append.1 k).2.2 j g j (by simp[A]);exact this rfl
  simp only[okPairX,Bool.or_eq_true]at h1;rcases h1 with h1|h1
  ·exact h1
  ·exact absurd (impl_asm v o _ _ _ h1 S rest q) g
 | .exd D l,m,d,o,h=>by
  simp only[qe,cZ]at d;have f:l.Perm σ:=(List.isPerm_iff.1 d.1).symm.trans hp;refine qb s t σ l (λS i rest q j A B=>?_) σ [] l ρ a w rfl f (List.Sublist.refl l) z h;have h1:=m4 d.2 B;have k:σ.Nodup:=hp.nodup_iff.1 List.nodup_range;have g:j∉S:=λg=>by
   rw[q]at k;have:=(List.nodup_append.1 k).2.2 j g j (by simp[A]);exact this rfl
  simp only[okPairX,Bool.or_eq_true]at h1;rcases h1 with h1|h1
  ·exact h1
  ·exact absurd (impl_asm v o _ _ _ h1 S rest q) g
 | .ask x y b c,m,d,o,h=>by
  simp only[qe,cZ]at d;obtain⟨⟨⟨⟨h1,_⟩,G⟩,H⟩,I⟩:=d;have C:x≠y:=λe=>by subst e;simp at h1
  have J:y∈σ:=hp.mem_iff.1 (by simpa [Nat.blt_eq]using G);have k:σ.Nodup:=hp.nodup_iff.1 List.nodup_range;rcases asm_total k J C with ht|ht
  ·exact qf s t v hp z b ((x,y)::m) H (λp r=>by rcases cV.1 r with rfl|h;exact ht;exact o p h) h.1
  ·exact qf s t v hp z c ((y,x)::m) I (λp r=>by rcases cV.1 r with rfl|h;exact ht;exact o p h) h.2
def evRegion(P:Program)(ent:FuncId->Bool)(n:Nat)(b:Option Plan)(ops:Array Oper)(a:Bool)(ρ:Env)(w:World)(K:Env->World->Prop):Prop:=
 match a with
 |false=>evOps P ent n ops ops.toList ρ w K
 |true=>match b with
  |none=>False
  |some b=>bif ss ops&&qe ops (ancT ops) b []then evPlan P ent n ops b ρ w.drew K else False
theorem evRegion_sound(k:P.follows .mixedOrders=true)(f:EntOk P ent){id:Nat}{e:Option Plan}{b:Bool}{Q:Exit->Act->World->Prop}{K:Env->World->Prop}
  (g:∀c a' i,fB n c a'->K c i->Q .normal a' i) {ρ:Env} {a:Act} {w:World} (j:fB n ρ a) (h:evRegion P ent n e ops b ρ w K):
  (Code.region id ops b).wp P Q a w:=by
 cases b with
 |false=>exact wp_region_list (evOps_sound f g ops.toList j h)
 |true=>
  refine wp_region_draw λt=>?_;simp only[Region.schedule,k,Bool.true_or,if_true];unfold evRegion at h;simp only at h;split at h
  ·exact h.elim
  ·rename_i e;cases d:ss ops&&qe ops (ancT ops) e []with
   |false=>rw[d]at h;exact h.elim
   |true=>
    rw[d]at h;simp only[cZ]at d;obtain⟨l,hp⟩:=linearise_props d.1 t;exact qf f g l hp j e [] d.2 (λp hp=>by cases hp) h
end
inductive It where
 |jn (c:Code)
 |lp (c:Code)
 |eK (id:Nat)
def itemOf:It->Item
 | .jn c=> .code c
 | .lp c=> .inLoop c
 | .eK id=> .inBlock id
def todo(t:List It):List Item:=t.map itemOf
inductive Ex where
 |normal
 |exit (id:Nat)
 |ret
structure Hints where
 loop:List (Nat×List Nat)
 join:List (Nat×List Nat)
 plan:List (Nat×Plan)
def look{α:Type}:List (Nat×α)->Nat->Option α
 | [],_=>none
 |(k,v)::r,i=>bif Nat.beq k i then some v else look r i
def qg:Code->Option Nat
 | .region id _ _=>some id
 | .seq a b=>match qg a with|some i=>some i|none=>qg b
 | .cond _ a b=>match qg a with|some i=>some i|none=>qg b
 | .block _ c=>qg c
 | .loop c=>qg c
 |_=>none
def lookC{α:Type}(l:List (Nat×α))(c:Code):Option α:=match qg c with|some i=>look l i|none=>none
def unpack:List Nat->List Value->Env
 |k::ks,x::xs,i=>bif Nat.beq i k then some x else unpack ks xs i
 |_,_,_=>none
def packE(ρ:Env):List Nat->Option (List Value)
 | []=>some []
 |k::ks=>match ρ k,packE ρ ks with|some v,some vs=>some (v::vs)|_,_=>none
def nq:Nat->List Value->Env
 |_, [],_=>none
 |k,v::vs,i=>bif Nat.beq i k then some v else nq (k+1) vs i
def base(f:FuncId):Frame:={(default:Frame)with fn:=f,kind:= .normal}
def FinM(P:Program)(f:FuncId)(cs:List Frame)(m:Machine)(Q:Value->World->Prop):Prop:=
 ∃v a b,Q v a/\Steps P m (lone b cs a)/\b.fn=f/\b.leaving P a (.returned v)
def Part(P:Program)(f:FuncId)(t:List It)(ao:List Nat)(xs:List Value)(w:World)(Q:Value->World->Prop):Prop:=
 ∀fn,P.funcs[f]? =some fn->∀a,fB fn.ntmps (unpack ao xs) a->∀cs,FinM P f cs (lone ((base f).at a (todo t)) cs w) Q
theorem FinM.mono{P:Program}{f:FuncId}{cs:List Frame}{m:Machine}{Q a:Value->World->Prop}(h:FinM P f cs m Q)(b:∀v w,Q v w->a v w):FinM P f cs m a:=by
 obtain⟨v,c,d,e,g⟩:=h;exact⟨v,c,d,b _ _ e,g⟩
theorem Part.mono{P:Program}{f:FuncId}{t:List It}{ao:List Nat}{xs:List Value}{w:World}{Q c:Value->World->Prop}(h:Part P f t ao xs w Q)(d:∀v w,Q v w->c v w):
  Part P f t ao xs w c:=λfn b a e cs=>(h fn b a e cs).mono d
def retv:List Value->Value
 | [v]=>v
 |vs=> .tuple vs.toArray
def finQ(P:Program)(ρ:Env)(w:World):List ResultVar->(List Value->Prop)->Prop
 | [],K=>K []
 | .tmp t::rs,K=>match ρ t with|some v=>finQ P ρ w rs λvs=>K (v::vs)|none=>False
 | .cell a t::rs,K=>match ρ a with|some x=>mV (gi P t x w) λv=>finQ P ρ w rs λvs=>K (v::vs)|none=>False
def cut(P:Program)(f:FuncId)(t:List It)(ao:List Nat)(ρ:Env)(w:World)(Q:Value->World->Prop):Prop:=
 match packE ρ ao with
 |some xs=>Part P f t ao xs w Q
 |none=>False
def cutO(P:Program)(f:FuncId)(t:List It)(ao:Option (List Nat))(ρ:Env)(w:World)(Q:Value->World->Prop)(A:Prop):Prop:=
 match ao with
 |some ao=>cut P f t ao ρ w Q
 |none=>A
section
variable(P:Program)(ent:FuncId->Bool)(f:FuncId)(n:Nat)(H:Hints)(res:List ResultVar)(Q:Value->World->Prop)
def gR:Code->List It->Env->World->(Ex->Env->World->Prop)->Prop
 | .skip,_,ρ,w,K=>K .normal ρ w
 | .region id ops d,_,ρ,w,K=>evRegion P ent n (look H.plan id) ops d ρ w λa b=>K .normal a b
 | .seq x y,t,ρ,w,K=>gR x (.jn y::t) ρ w λe a b=>match e with
  | .normal=>cutO P f (.jn y::t) (lookC H.join y) a b Q (gR y t a b K)
  | .exit id=>K (.exit id) a b
  | .ret=>K .ret a b
 | .cond c x y,t,ρ,w,K=>match cm ρ c with
  |some v=>cnd v (gR x t ρ w K) (gR y t ρ w K)
  |none=>False
 | .block id c,t,ρ,w,K=>gR c (.eK id::t) ρ w λe a b=>match e with
  | .normal=>K .normal a b
  | .exit g=>bif Nat.beq g id then K .normal a b else K (.exit g) a b
  | .ret=>K .ret a b
 | .loop c,t,ρ,w,_=>match lookC H.loop c with
  |some ao=>cut P f (.lp c::t) ao ρ w Q
  |none=>False
 | .exit id,_,ρ,w,K=>K (.exit id) ρ w
 | .ret,_,ρ,w,K=>K .ret ρ w
 |_,_,_,_,_=>False
def iZ:List It->Ex->Env->World->Prop
 | [],e,ρ,w=>match e with
  | .exit _=>False
  |_=>finQ P ρ w res λvs=>Q (retv vs) w
 | .jn y::t,e,ρ,w=>match e with
  | .normal=>cutO P f (.jn y::t) (lookC H.join y) ρ w Q (gR P ent f n H Q y t ρ w (iZ t))
  | .exit id=>iZ t (.exit id) ρ w
  | .ret=>iZ t .ret ρ w
 | .eK id::t,e,ρ,w=>match e with
  | .normal=>iZ t .normal ρ w
  | .exit a=>bif Nat.beq a id then iZ t .normal ρ w else iZ t (.exit a) ρ w
  | .ret=>iZ t .ret ρ w
 | .lp c::t,e,ρ,w=>match e with
  | .normal=>match lookC H.loop c with
   |some ao=>cut P f (.lp c::t) ao ρ w Q
   |none=>False
  | .exit id=>iZ t (.exit id) ρ w
  | .ret=>iZ t .ret ρ w
end
theorem unpack_agree{n:Nat}{ρ:Env}{a:Act}(c:fB n ρ a){ks:List Nat}{xs:List Value}(h:packE ρ ks=some xs):fB n (unpack ks xs) a:=by
 refine⟨c.1,c.2.1,?_⟩;induction ks generalizing xs with
 |nil=>intro t v b;simp[unpack]at b
 |cons k ks d=>
  intro t v b;simp only[packE]at h;split at h
  ·rename_i u us e f;cases h;simp only[unpack]at b;cases hb:Nat.beq t k with
   |true=>
    rw[hb]at b;cases b;rw[Nat.eq_of_beq_eq_true hb];exact c.2.2 _ _ e
   |false=>rw[hb]at b;exact d f t v b
  ·cases h
theorem FinM.of_steps{P:Program}{f:FuncId}{cs:List Frame}{m a:Machine}{Q:Value->World->Prop}(h:Steps P m a)(b:FinM P f cs a Q):FinM P f cs m Q:=by
 obtain⟨v,c,d,e,g,i,j⟩:=b;exact⟨v,c,d,e,h.trans g,i,j⟩
section
variable{P:Program}{ent:FuncId->Bool}{f:FuncId}{fn:Func}{H:Hints}{Q:Value->World->Prop}
theorem cut_fin(b:P.funcs[f]? =some fn){t:List It}{ao:List Nat}{ρ:Env}{a:Act}{w:World}(c:fB fn.ntmps ρ a)(h:cut P f t ao ρ w Q)(cs:List Frame):
  FinM P f cs (lone ((base f).at a (todo t)) cs w) Q:=by
 unfold cut at h;split at h
 ·rename_i xs d;exact h fn b a (unpack_agree c d) cs
 ·exact h.elim
def Ret(P:Program)(fn:Func)(Q:Value->World->Prop)(a:Act)(w:World):Prop:=∃v,(results fn a.tmps).run P w= .ok v w/\Q v w/\a.defers= []
def KS(P:Program)(f:FuncId)(fn:Func)(Q:Value->World->Prop)(K:Ex->Env->World->Prop)(t:List It):Prop:=
 ∀ρ a w cs,fB fn.ntmps ρ a->(K .normal ρ w->FinM P f cs (lone ((base f).at a (todo t)) cs w) Q)/\
  (∀ id,K (.exit id) ρ w->∃b,exitTo id (todo t)=some b/\FinM P f cs (lone ((base f).at a b) cs w) Q)/\(K .ret ρ w->Ret P fn Q a w)
theorem ret_fin(b:P.funcs[f]? =some fn){a:Act}{w:World}(h:Ret P fn Q a w)(cs:List Frame)(k:List Item):
  FinM P f cs (lone {(base f).at a k with mode:= .returning} cs w) Q:=by
 obtain⟨v,c,d,e⟩:=h;exact⟨v,w,_,d,.refl _ _,rfl,rfl,e,rfl,fn,b,c⟩
theorem jk(q:P.follows .mixedOrders=true)(r:EntOk P ent)(m:P.funcs[f]? =some fn):
  ∀(c:Code) (t:List It) (ρ:Env) (a:Act) (w:World) (K:Ex->Env->World->Prop),KS P f fn Q K t->fB fn.ntmps ρ a->gR P ent f fn.ntmps H Q c t ρ w K->
   ∀cs,FinM P f cs (lone ((base f).at a (.code c::todo t)) cs w) Q
 | .skip,t,ρ,a,w,K,i,l,h,cs=> .of_steps (.one step_skip) ((i ρ a w cs l).1 h)
 | .region id ops G,t,ρ,a,w,K,i,l,h,cs=>by
  have A:=evRegion_sound (id:=id) (Q:=λe a' n=>e= .normal/\∃d,fB fn.ntmps d a'/\K .normal d n) q r (λd a' n g j=>⟨rfl,d,g,j⟩) l h;obtain⟨e,a',n,⟨rfl,d,g,B⟩,u⟩:=A (base f) (todo t) cs;exact .of_steps u ((i d a' n cs g).1 B)
 | .seq x y,t,ρ,a,w,K,i,l,h,cs=>by
  refine .of_steps (.one step_seq) ?_;refine jk q r m x (.jn y::t) ρ a w _ (λd a' n cs' g=>⟨λj=>?_,λid j=>?_,λj=>?_⟩) l h cs
  ·simp only[cutO]at j;split at j
   ·exact cut_fin m g j cs'
   ·exact jk q r m y t d a' n K i g j cs'
  ·exact(i d a' n cs' g).2.1 id j
  ·exact(i d a' n cs' g).2.2 j
 | .cond c x y,t,ρ,a,w,K,i,l,h,cs=>by
  simp only[gR]at h;split at h
  ·rename_i v I;unfold cnd at h;split at h
   ·refine .of_steps (.one (step_cond (t:=true) (l.eval I))) ?_;exact jk q r m x t ρ a w K i l h cs
   ·refine .of_steps (.one (step_cond (t:=false) (l.eval I))) ?_;exact jk q r m y t ρ a w K i l h cs
   ·exact h.elim
  ·exact h.elim
 | .block id c,t,ρ,a,w,K,i,l,h,cs=>by
  refine .of_steps (.one step_block) ?_;refine jk q r m c (.eK id::t) ρ a w _ (λd a' n cs' g=>⟨λj=>?_,λo j=>?_,λj=>?_⟩) l h cs
  ·exact .of_steps (.one step_inBlock) ((i d a' n cs' g).1 j)
  ·simp only at j;cases hb:Nat.beq o id with
   |true=>
    rw[hb]at j;have C:=Nat.eq_of_beq_eq_true hb;exact⟨todo t,by simp[todo,itemOf,exitTo,C],(i d a' n cs' g).1 j⟩
   |false=>
    rw[hb]at j;obtain⟨J,p,z⟩:=(i d a' n cs' g).2.1 o j;refine⟨J,?_,z⟩;have D:(id==o)=false:=by
     simp only[beq_eq_false_iff_ne,ne_eq];intro e;subst e;simp at hb
    simpa [todo,itemOf,exitTo,D]using p
  ·exact(i d a' n cs' g).2.2 j
 | .loop c,t,ρ,a,w,K,i,l,h,cs=>by
  simp only[gR]at h;split at h
  ·rename_i ao _;obtain⟨v,n,L,O,R,z,M⟩:=cut_fin m l h cs;have S:=step_loop (P:=P) (b:=base f) (a:=a) (k:=todo t) (cs:=cs) (w:=w) (c:=c);have T:=step_inLoop (P:=P) (b:=base f) (a:=a) (k:=todo t) (cs:=cs) (w:=w) (c:=c);obtain⟨k,s⟩:=R;cases k with
   |zero=>
    exfalso;simp only[runN]at s;injection s with s
    have E:(base f).at a (todo (.lp c::t))=L:=by
     have:=congrArg Machine.gs s;simp only[lone,Array.mk.injEq,List.cons.injEq,Goroutine.mk.injEq]at this;exact this.1.1
    have:=M.1;rw[<- E]at this;simp[Frame.at]at this
   |succ k=>
    refine⟨v,n,L,O,⟨k+1,?_⟩,z,M⟩;have F:step P (lone ((base f).at a (todo (.lp c::t))) cs w)= .next (lone ((base f).at a (.code c:: .inLoop c::todo t)) cs w):=T
    simp only[runN,S];simp only[runN,F]at s;exact s
  ·exact h.elim
 | .exit id,t,ρ,a,w,K,i,l,h,cs=>by
  obtain⟨J,p,z⟩:=(i ρ a w cs l).2.1 id h;exact .of_steps (.one (step_exit p)) z
 | .ret,t,ρ,a,w,K,i,l,h,cs=> .of_steps (.one step_ret) (ret_fin m ((i ρ a w cs l).2.2 h) cs _)
 | .rangeFunc _ _ _ _,_,_,_,_,_,_,_,h,_=>h.elim
 | .scope _,_,_,_,_,_,_,_,h,_=>h.elim
 | .label _,_,_,_,_,_,_,_,h,_=>h.elim
 | .goto _,_,_,_,_,_,_,_,h,_=>h.elim
 | .refuse _,_,_,_,_,_,_,_,h,_=>h.elim
def rvar(a:Act):ResultVar->Sem Value
 | .tmp t=>Pure.pure (a.tmps.getD t undef)
 | .cell x t=>do loadVar t (<- asAddr (a.tmps.getD x undef))
theorem tz{ρ:Env}{a:Act}{w:World}{n:Nat}(b:fB n ρ a):∀{l:List ResultVar} {K:List Value->Prop},finQ P ρ w l K->
  ∃vs,K vs/\(l.mapM (rvar a)).run P w= .ok vs w
 | [],K,h=>⟨[],h,by simp⟩
 | .tmp t::rs,K,h=>by
  simp only[finQ]at h;split at h
  ·rename_i v d;obtain⟨vs,e,f⟩:=tz b h;refine⟨v::vs,e,?_⟩;have g:a.tmps.getD t undef=v:=b.eval (x:= .tmp t) d;rw[List.mapM_cons];simp only[rvar,Sem.run_bind,Sem.run_pure,Result.andThen_ok,g];simp only[f,Result.andThen_ok]
  ·exact h.elim
 | .cell x t::rs,K,h=>by
  simp only[finQ]at h;split at h
  ·rename_i v d;obtain⟨u,c,h⟩:=gH.1 h;obtain⟨vs,e,f⟩:=tz b h;refine⟨u::vs,e,?_⟩;have g:a.tmps.getD x undef=v:=b.eval (x:= .tmp x) d;have i:=ldv_spec c;have j:∃p,v= .pointer (some p):=by
    unfold gi at c;split at c
    ·exact⟨_,rfl⟩
    ·cases c
   obtain⟨p,rfl⟩:=j;rw[List.mapM_cons];simp only[Instr.loadAt,Instr.sureAddr,pure_bind]at i;simp only[rvar,Sem.run_bind,asAddr,Sem.run_pure,Result.andThen_ok,g,i];simp only[f,Result.andThen_ok]
  ·exact h.elim
theorem fin_ret{ρ:Env}{a:Act}{w:World}(c:fB fn.ntmps ρ a)(h:finQ P ρ w fn.results.toList λvs=>Q (retv vs) w):Ret P fn Q a w:=by
 obtain⟨vs,d,e⟩:=tz c h;refine⟨retv vs,?_,d,c.2.1⟩;have f:(fn.results.mapM (rvar a)).run P w= .ok vs.toArray w:=by
  rw[Array.mapM_eq_mapM_toList,Sem.run_map,e];rfl
 have b:results fn a.tmps=(fn.results.mapM (rvar a) >>= λvs=>Pure.pure (if h:vs.size=1 then vs[0]else .tuple vs)):=by
  unfold results;congr 1
 rw[b,Sem.run_bind,f];simp only[Result.andThen_ok,Sem.run_pure];congr 1;cases vs with
 |nil=>simp[retv]
 |cons v vs=>cases vs<;>simp[retv]
theorem kB(j:P.follows .mixedOrders=true)(k:EntOk P ent)(d:P.funcs[f]? =some fn):
  ∀(t:List It),KS P f fn Q (iZ P ent f fn.ntmps H fn.results.toList Q t) t
 | [],ρ,a,w,cs,b=>⟨λh=> .of_steps (.one step_end) (ret_fin d (fin_ret b h) cs _),λ_ h=>h.elim,λh=>fin_ret b h⟩
 | .jn y::t,ρ,a,w,cs,b=>by
  have g:=kB j k d t;refine⟨λh=>?_,λid h=>?_,λh=>(g ρ a w cs b).2.2 h⟩
  ·simp only[iZ,cutO]at h;split at h
   ·exact cut_fin d b h cs
   ·exact jk j k d y t ρ a w _ g b h cs
  ·exact(g ρ a w cs b).2.1 id h
 | .eK id::t,ρ,a,w,cs,b=>by
  have g:=kB j k d t;refine⟨λh=> .of_steps (.one step_inBlock) ((g ρ a w cs b).1 h),λi h=>?_,λh=>(g ρ a w cs b).2.2 h⟩;simp only[iZ]at h;cases hb:Nat.beq i id with
  |true=>
   rw[hb]at h;have l:=Nat.eq_of_beq_eq_true hb;exact⟨todo t,by simp[todo,itemOf,exitTo,l],(g ρ a w cs b).1 h⟩
  |false=>
   rw[hb]at h;obtain⟨o,m,p⟩:=(g ρ a w cs b).2.1 i h;refine⟨o,?_,p⟩;have n:(id==i)=false:=by
    simp only[beq_eq_false_iff_ne,ne_eq];intro e;subst e;simp at hb
   simpa [todo,itemOf,exitTo,n]using m
 | .lp c::t,ρ,a,w,cs,b=>by
  have g:=kB j k d t;refine⟨λh=>?_,λid h=>(g ρ a w cs b).2.1 id h,λh=>(g ρ a w cs b).2.2 h⟩;simp only[iZ]at h;split at h
  ·exact cut_fin d b h cs
  ·exact h.elim
theorem entryE_agree:∀(vs:List Value) (k:Nat) (t:Nat) (v:Value),nq k vs t=some v->k<=t/\vs[t-k]? =some v
 | [],k,t,v,h=>by simp[nq]at h
 |u::vs,k,t,v,h=>by
  simp only[nq]at h;cases hb:Nat.beq t k with
  |true=>
   rw[hb]at h;cases h;have:=Nat.eq_of_beq_eq_true hb;subst this;simp
  |false=>
   rw[hb]at h;obtain⟨b,a⟩:=entryE_agree vs (k+1) t v h;refine⟨dB,?_⟩;have:t-k=(t-(k+1))+1:=dB;rw[this];simpa using a
theorem call_of(j:P.follows .mixedOrders=true)(k:EntOk P ent)(d:P.funcs[f]? =some fn){c:Code}(hb:fn.body=some c)(H:Hints){args:List Value}(s:args.length<=fn.ntmps){w:World}
  (h:gR P ent f fn.ntmps H Q c [] (nq 0 args) w (iZ P ent f fn.ntmps H fn.results.toList Q [])):aa P f args w Q:=by
 intro cs;let a:Act:={tmps:=args.toArray++Array.replicate (fn.ntmps-args.toArray.size) undef,defers:= []}
 have l:fB fn.ntmps (nq 0 args) a:=by
  refine⟨by simp[a];omega,rfl,λt v m=>?_⟩;obtain⟨_,e⟩:=entryE_agree args 0 t v m;simp only[Nat.sub_zero]at e;have g:t<args.length:=(bY.1 e).1;simp only[a];rw[Array.getElem?_append_left (by simpa using g)];simpa using e
 have b:Frame.enter P f args.toArray .normal=(base f).at a [.code c]:=by
  simp[Frame.enter,Frame.at,d,hb,base,a]
 obtain⟨v,n,o,p,q,r,i⟩:=jk j k d c [] (nq 0 args) a w _ (kB j k d []) l h cs;exact⟨.returned v,n,o,⟨v,rfl,p⟩,by rw[b];exact q,r,i⟩
theorem part_lp(e:P.follows .mixedOrders=true)(g:EntOk P ent)(d:P.funcs[f]? =some fn)(H:Hints){c:Code}{t:List It}{ao:List Nat}{xs:List Value}{w:World}
  (h:gR P ent f fn.ntmps H Q c (.lp c::t) (unpack ao xs) w (iZ P ent f fn.ntmps H fn.results.toList Q (.lp c::t))):Part P f (.lp c::t) ao xs w Q:=by
 intro i b a j cs;rw[d]at b;cases b;have k:=jk e g d c (.lp c::t) _ a w _ (kB e g d (.lp c::t)) j h cs;exact .of_steps (.one step_inLoop) k
theorem part_jn(e:P.follows .mixedOrders=true)(g:EntOk P ent)(d:P.funcs[f]? =some fn)(H:Hints){c:Code}{t:List It}{ao:List Nat}{xs:List Value}{w:World}
  (h:gR P ent f fn.ntmps H Q c t (unpack ao xs) w (iZ P ent f fn.ntmps H fn.results.toList Q t)):Part P f (.jn c::t) ao xs w Q:=by
 intro i b a j cs;rw[d]at b;cases b;exact jk e g d c t _ a w _ (kB e g d t) j h cs
end
def aX:List Nat->Code->Code
 | [],c=>c
 |0::p,.seq a _=>aX p a
 |1::p,.seq _ b=>aX p b
 |2::p,.cond _ a _=>aX p a
 |3::p,.cond _ _ b=>aX p b
 |4::p,.block _ c=>aX p c
 |5::p,.loop c=>aX p c
 |_::_,c=>c
def qh(a b:Nat)(g:FuncId):Bool:=Nat.ble a g&&Nat.blt g b
def entChk(P:Program)(lo hi:Nat):Bool:=(List.range hi).all λg=>Nat.blt g lo||match P.funcs[g]? with
 | some fn => fn.body.isSome && fn.name != "runtime.NumGoroutine"
 |none=>false
theorem entOk_of{P:Program}{b e:Nat}(h:entChk P b e=true):EntOk P (qh b e):=by
 intro g d;unfold entChk at h;simp only[qh,cZ]at d;rw[List.all_eq_true]at h;have a:=h g (by simpa [Nat.blt_eq]using d.2);have i:Nat.blt g b=false:=by
  cases hb:Nat.blt g b with
  |false=>rfl
  |true=>
   exact absurd (Nat.le_of_ble_eq_true d.1) (Nat.not_le_of_lt (by simpa [Nat.blt_eq]using hb))
 rw[i,Bool.false_or]at a;cases f:P.funcs[g]? with
 |none=>rw[f]at a;cases a
 |some fn=>
  rw[f]at a;simp only[cZ,bne_iff_ne,ne_eq]at a;cases hb:fn.body with
  |none=>rw[hb]at a;simp at a
  |some c=>exact⟨fn,c,rfl,hb,a.2⟩
noncomputable def bp(P:Program)(op:BinOp)(t:TypeId)(a b:Value):Option Value:=ai P (binOp op t a b)
noncomputable def be(P:Program)(op:BinOp)(t:TypeId)(x y:Operand)(a b:Value):Option Value:=ai P (do eqGuard op t x y a b;binOp op t a b)
section
variable{P:Program}{ent:FuncId->Bool}{f:FuncId}{fn:Func}{Q:Value->World->Prop}{L:Prop}
theorem call_ofE(b:P.follows .mixedOrders=true)(d:EntOk P ent)(a:P.funcs[f]? =some fn){c:Code}(hb:fn.body=some c)(H:Hints){args:List Value}(g:args.length<=fn.ntmps){w:World}
  (e:gR P ent f fn.ntmps H Q c [] (nq 0 args) w (iZ P ent f fn.ntmps H fn.results.toList Q [])=L) (h:L):aa P f args w Q:=call_of b d a hb H g (e.mpr h)
theorem part_lpE(b:P.follows .mixedOrders=true)(d:EntOk P ent)(a:P.funcs[f]? =some fn)(H:Hints){c:Code}{t:List It}{ao:List Nat}{xs:List Value}{w:World}
  (e:gR P ent f fn.ntmps H Q c (.lp c::t) (unpack ao xs) w (iZ P ent f fn.ntmps H fn.results.toList Q (.lp c::t))=L) (h:L):Part P f (.lp c::t) ao xs w Q:=part_lp b d a H (e.mpr h)
theorem part_jnE(b:P.follows .mixedOrders=true)(d:EntOk P ent)(a:P.funcs[f]? =some fn)(H:Hints){c:Code}{t:List It}{ao:List Nat}{xs:List Value}{w:World}
  (e:gR P ent f fn.ntmps H Q c t (unpack ao xs) w (iZ P ent f fn.ntmps H fn.results.toList Q t)=L) (h:L):Part P f (.jn c::t) ao xs w Q:=part_jn b d a H (e.mpr h)
end
end Go.Proofs.YtnpflajdbchghaaGreat.Ev
